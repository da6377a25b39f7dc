/- The engine of the yard and what it leans on, part 37. -/
import Derived.Test.YtbpoapfkeinjnaaGreatDoorK36
namespace Go.Proofs.YtbpoapfkeinjnaaGreatDoor.Ld
open Go.RowKit Go.Proofs.YtbpoapfkeinjnaaGreatDoorW.PrintWords Go.Proofs.YtbpoapfkeinjnaaGreatDoorW.PrintLast Go.Proofs.YtbpoapfkeinjnaaGreatDoorW.PrintMore
set_option linter.unusedVariables false
set_option linter.unusedSimpArgs false
set_option linter.unnecessarySimpa false
attribute [local go_sem] max2_int min2_int max_two min_two
theorem GrInv.len {G : Gr} (h : GrInv G) (b : Bool) {j : Nat} (hj : j < G.N) : (G.L b j).length ≤ G.N := by
  have h1 : ((G.L b j).map Int.toNat).Nodup := by
    have h2 := h.dup b j hj
    rw [List.nodup_iff_pairwise_ne] at h2 ⊢
    rw [List.pairwise_map]
    refine List.Pairwise.imp_of_mem ?_ h2
    intro x y hx hy hne he
    obtain ⟨a, rfl, _⟩ := h.mem b j hj x hx
    obtain ⟨c, rfl, _⟩ := h.mem b j hj y hy
    have he2 : a = c := by simpa using he
    exact hne (by rw [he2])
  have h3 := nodup_le _ G.N h1 (fun x hx => by
    obtain ⟨z, hz, rfl⟩ := List.mem_map.1 hx
    obtain ⟨a, rfl, ha⟩ := h.mem b j hj z hz
    simpa using ha)
  rwa [List.length_map] at h3
set_option maxHeartbeats 8000000 in
set_option maxRecDepth 100000 in
theorem EState_calls (S : Nat → Prop) (g : Nat) (K : EK) (e : Eng) (t : Nat) (w : World) (H : EngAt S w g K e) (hN : e.N ≤ 12) (ht : t < e.N) :
    Calls Tryz.prog 15 #[.pointer (some ⟨g, 0, none⟩), .int .i64 (t : Int)] w fun en w' => en = .returned (.int .i64 (e.life t).state) ∧ Below w.heap.size w w' := by
  have HE := Aside0.mk H
  have hd : decide (0 ≤ (t : Int) ∧ (t : Int) < e.N) = true := decide_eq_true (by omega)
  obtain ⟨st, hst⟩ : ∃ st, (e.life t).state = st := ⟨_, rfl⟩
  have HST := Aside0.mk hst
  rw [hst]
  clear H hst
  go_enter Tryz.func15, Tryz.ntmps15
  go_upto_region 3 with (go_at_call 29; go_loud (refine (there29 S g K e t _ HE.out hN).mono ?_); rintro en w2 ⟨rfl, hq⟩; rw [hd]; have HB2 := Aside0.mk hq.below; clear hq)
  have H2 := Aside0.mk (HE.out.keep HB2.out)
  have c11 := H2.out.ftasks
  obtain ⟨ct, _, cl, _, _, _⟩ := H2.out.ftask t ht
  have HLI := Aside0.mk (H2.out.flife t ht).1
  have q1 : (0 ≤ (t : Int)) = True := eq_true (by omega)
  have q2 : ((t : Int) < (e.N : Int)) = True := eq_true (by omega)
  go_wp2_with (go_at_call 30; (with_reducible refine (State_calls (K.lp t) (e.life t) _ HLI.out).mono ?_); rintro en w3 ⟨rfl, hq⟩; rw [HST.out]; have HB3 := Aside0.mk (below_step HB2.out hq.below); clear hq)
  go_ret
  exact ⟨rfl, HB3.out⟩
set_option maxHeartbeats 8000000 in
set_option maxRecDepth 100000 in
theorem Edges_calls (S : Nat → Prop) (g : Nat) (K : EK) (e : Eng) (t : Nat) (w : World) (H : EngAt S w g K e) (hi : EngInv e) (ht : t < e.N) :
    Calls Tryz.prog 16 #[.pointer (some ⟨g, 0, none⟩), .int .i64 (t : Int)] w fun en w' => ∃ A c, en = .returned (.slice A (e.gr.L false t).length c) ∧ RI w' A (e.gr.L false t) ∧ Below w.heap.size w w' := by
  have HI := Aside0.mk hi
  obtain ⟨c13, S1, hgr, _, _⟩ := H.gr
  have HG := Aside0.mk hgr
  have HT := Aside0.mk (show t < e.gr.N from by rw [hi.gN]; exact ht)
  have HL := Aside0.mk (hi.gr.len false HT.out)
  have HN := Aside0.mk (show e.gr.N ≤ 12 from by rw [hi.gN]; exact hi.N.2)
  clear H hi hgr
  go_enter Tryz.func16, Tryz.ntmps16
  go_wp2_with (go_at_call 31; go_loud (refine (Out_calls S1 K.gg e.gr t _ HG.out (by have := HN.out; omega) HT.out (by have := HN.out; have := HL.out; omega)).mono ?_); rintro en w3 ⟨A, c, rfl, hr, -, hb⟩; have HR := Aside0.mk (And.intro hr hb); clear hr hb)
  go_ret
  exact ⟨A, c, rfl, HR.out.1, HR.out.2⟩
theorem ev_one (l : List Ev) : ∀ u, u ∈ flat encEv l → u.oneCell' = true := fun u hu => by
  obtain ⟨x, hx, hu⟩ := List.mem_flatten.1 hu
  obtain ⟨y, _, rfl⟩ := List.mem_map.1 hx
  simp [encEv] at hu
  rcases hu with rfl | rfl | rfl | rfl | rfl <;> rfl
structure Evs (w : World) (A : Option Addr) (l : List Ev) : Prop where
  at_ : ∀ i, i < l.length → ∃ ad x, A = some ad ∧ l[i]? = some x ∧ w.cell? (ad.add (i * 5)) = some (.int .i64 x.kind) ∧ w.cell? ⟨(ad.add (i * 5)).block, (ad.add (i * 5)).off + 1, none⟩ = some (.int .i64 x.task) ∧
    w.cell? ⟨(ad.add (i * 5)).block, (ad.add (i * 5)).off + 2, none⟩ = some (.int .i64 x.slot) ∧ w.cell? ⟨(ad.add (i * 5)).block, (ad.add (i * 5)).off + 3, none⟩ = some (.int .i64 x.epoch)
theorem Evs.below {w w' : World} {A : Option Addr} {l : List Ev} (h : Evs w A l) (hb : Below w.heap.size w w') : Evs w' A l := ⟨fun i hi => by
  obtain ⟨ad, x, h0, h1, h2, h3, h4, h5⟩ := h.at_ i hi
  exact ⟨ad, x, h0, h1, pw_cell_below hb h2, pw_cell_below hb h3, pw_cell_below hb h4, pw_cell_below hb h5⟩⟩
theorem Evs.of_row {T : Nat → Prop} {w : World} {A : Option Addr} {n c : Nat} {l : List Ev} (hr : RowAt T w 52 5 (.slice A n c) n (flat encEv l)) (hn : n = l.length) : Evs w A l := ⟨fun i hi => by
  subst hn
  obtain ⟨ad, h1, h2, h3⟩ := hr.item (enc := encEv) (sz := 5) (fun _ => rfl) (by decide) ⟨0, 0, 0, 0, 0⟩ i hi
  have hg : l[i]? = some (l.getD i ⟨0, 0, 0, 0, 0⟩) := by rw [List.getD_eq_getElem?_getD, List.getElem?_eq_getElem hi]; rfl
  exact ⟨ad, _, h1, hg, h2, h3 1 (by decide) (by decide), h3 2 (by decide) (by decide), h3 3 (by decide) (by decide)⟩⟩
set_option maxHeartbeats 8000000 in
set_option maxRecDepth 100000 in
theorem Log_calls (S : Nat → Prop) (g : Nat) (K : EK) (e : Eng) (w : World) (H : EngAt S w g K e) (hl : e.log.length ≤ 1000000) :
    Calls Tryz.prog 14 #[.pointer (some ⟨g, 0, none⟩)] w fun en w' => ∃ A c, en = .returned (.slice A e.log.length c) ∧ Evs w' A e.log ∧ Below w.heap.size w w' := by
  obtain ⟨S1, A, c, cs, c20, hrow, _⟩ := H.logp
  have HR := Aside0.mk hrow
  have HL := Aside0.mk hl
  obtain ⟨n, hn⟩ : ∃ n, e.log.length = n := ⟨_, rfl⟩
  have HN := Aside0.mk hn
  rw [hn] at c20 HR HL ⊢
  clear H hrow hl hn
  go_enter Tryz.func14, Tryz.ntmps14
  go_wp2_with (go_at_call 28; go_loud (refine (Clone28_calls S1 A n c (flat encEv e.log) _ HR.out (ev_one _) HL.out).mono ?_); rintro en w3 ⟨v, rfl, h3⟩; have H3 := Aside0.mk h3; obtain ⟨A6, c6, rfl⟩ := h3.1.slice; clear h3)
  go_ret
  exact ⟨A6, c6, rfl, Evs.of_row H3.out.1 HN.out.symm, H3.out.2⟩
end Go.Proofs.YtbpoapfkeinjnaaGreatDoor.Ld
namespace Go.Proofs.YtbpoapfkeinjnaaGreatDoor.Ld
open Go.RowKit Go.Proofs.YtbpoapfkeinjnaaGreatDoorW.PrintWords Go.Proofs.YtbpoapfkeinjnaaGreatDoorW.PrintLast Go.Proofs.YtbpoapfkeinjnaaGreatDoorW.PrintMore
set_option linter.unusedVariables false
set_option linter.unusedSimpArgs false
set_option linter.unnecessarySimpa false
attribute [local go_sem] max2_int min2_int max_two min_two
set_option maxHeartbeats 8000000 in
set_option maxRecDepth 100000 in
theorem epoch_calls (S : Nat → Prop) (g : Nat) (K : EK) (e : Eng) (x : Int) (w : World) (H : EngAt S w g K e) (hl : e.log.length ≤ 1000000) :
    Calls Tryz.prog 27 #[.pointer (some ⟨g, 0, none⟩), .int .i64 x] w fun en w' => ∃ m : Int, en = .returned (.int .i64 m) ∧ Below w.heap.size w w' := by
  have HE := Aside0.mk H
  have HL := Aside0.mk hl
  clear H hl
  go_enter Tryz.func27, Tryz.ntmps27
  go_upto_region 2 with (go_at_call 14; go_loud (refine (Log_calls S g K e _ HE.out HL.out).mono ?_); rintro en w2 ⟨A, c, rfl, hv, hb⟩; have HV := Aside0.mk (And.intro hv hb); clear hv hb)
  obtain ⟨n, hn⟩ : ∃ n, e.log.length = n := ⟨_, rfl⟩
  have HN := Aside0.mk hn
  have hnb : n ≤ 1000000 := hn ▸ HL.out
  rw [hn]
  clear hn
  go_wp2
  go_loopg [6, 7] (n + 1) (fun kq v6 v7 wr => ∃ (i : Nat) (m : Int), v7 = .int .i64 (i : Int) ∧ v6 = .int .i64 m ∧ Aside0 (kq + i = n + 1 ∧ i ≤ n ∧ Below w2.heap.size w2 wr))
  case atStart => exact ⟨0, 0, rfl, rfl, ⟨by omega, by omega, by first | exact Below.refl _ _ | exact pw_below_drewN (Below.refl _ _) 1⟩⟩
  case round =>
    obtain ⟨i, m, rfl, rfl, hA⟩ := hrel
    obtain ⟨hk, hi, hb⟩ := hA.out
    have HB := Aside0.mk hb
    have HK := Aside0.mk hk
    clear hA hb hk
    by_cases hlt : i < n
    · obtain ⟨ad, y, rfl, _, c0, c1, c2, c3⟩ := (HV.out.1.below HB.out).at_ i (by rw [HN.out]; exact hlt)
      obtain ⟨yk, hyk⟩ : ∃ yk, y.kind = yk := ⟨_, rfl⟩
      obtain ⟨ys, hys⟩ : ∃ ys, y.slot = ys := ⟨_, rfl⟩
      obtain ⟨ye, hye⟩ : ∃ ye, y.epoch = ye := ⟨_, rfl⟩
      rw [hyk] at c0
      rw [hys] at c2
      rw [hye] at c3
      have q1 : (0 ≤ (i : Int)) = True := eq_true (by omega)
      have q2 : ((i : Int) < (n : Int)) = True := eq_true (by omega)
      clear hyk hys hye c1
      have HKG := Aside0.mk (show ∀ m' : Int, ∀ w9, Below w2.heap.size w2 w9 → ∃ (i' : Nat) (m : Int), Value.int .i64 ((i : Int) + 1) = .int .i64 (i' : Int) ∧ Value.int .i64 m' = .int .i64 m ∧ Aside0 (gk - 1 + i' = n + 1 ∧ i' ≤ n ∧ Below w2.heap.size w2 w9) from fun m' w9 h => ⟨i + 1, m', by rw [show ((i : Int) + 1) = ((i + 1 : Nat) : Int) by omega], rfl, ⟨by have := HK.out; omega, by omega, h⟩⟩)
      by_cases hc : ys = x
      · subst hc
        by_cases hc2 : yk = 1
        · subst hc2
          go_wp2
          go_roundg (gk - 1)
          case measure => have := HK.out; omega
          case rel => exact HKG.out _ _ HB.out
        · have r1 : (yk == 1) = false := beq_eq_false_iff_ne.2 hc2
          go_wp2
          go_roundg (gk - 1)
          case measure => have := HK.out; omega
          case rel => exact HKG.out _ _ HB.out
      · have r1 : (ys == x) = false := beq_eq_false_iff_ne.2 hc
        go_wp2
        go_roundg (gk - 1)
        case measure => have := HK.out; omega
        case rel => exact HKG.out _ _ HB.out
    · have q2 : ((i : Int) < (n : Int)) = False := eq_false (by omega)
      obtain rfl : i = n := by omega
      go_wp2
      go_ret
      exact ⟨m, rfl, below_step HV.out.2 HB.out⟩
end Go.Proofs.YtbpoapfkeinjnaaGreatDoor.Ld
namespace Go.Proofs.YtbpoapfkeinjnaaGreatDoor.Ld
open Go.RowKit Go.Proofs.YtbpoapfkeinjnaaGreatDoorW.PrintWords Go.Proofs.YtbpoapfkeinjnaaGreatDoorW.PrintLast Go.Proofs.YtbpoapfkeinjnaaGreatDoorW.PrintMore
set_option linter.unusedVariables false
set_option linter.unusedSimpArgs false
set_option linter.unnecessarySimpa false
attribute [local go_sem] max2_int min2_int max_two min_two
def zO : Obj := .cells #[.int .i64 0, .int .i64 0, .int .i64 0, .int .i64 0, .int .i64 0] 39
structure OpB (w : World) (B : Nat) (o : Opr) (wr : World) : Prop where
  b : wr.heap[B]? = some (opO o)
  z : wr.heap[B + 1]? = some zO
  by_ : Below w.heap.size w wr
theorem OpB.below {w wr w2 : World} {B : Nat} {o : Opr} (h : OpB w B o wr) (hb : Below wr.heap.size wr w2) : OpB w B o w2 := ⟨blk_below h.b hb, blk_below h.z hb, below_step h.by_ hb⟩
theorem OpB.put {w wr : World} {B : Nat} {o : Opr} (h : OpB w B o wr) (hB : w.heap.size = B) (i : Nat) (v : Value) (o' : Opr) (ho : #[Value.int .i64 o'.k, .int .i64 o'.a, .int .i64 o'.b, .int .i64 o'.c, .int .i64 o'.d] = (#[Value.int .i64 o.k, .int .i64 o.a, .int .i64 o.b, .int .i64 o.c, .int .i64 o.d]).setIfInBounds i v) : OpB w B o' (wr.setCell ⟨B, i, none⟩ v) := by
  have hc : Chg (fun k => k = B) wr (wr.setCell ⟨B, i, none⟩ v) := (Chg.refl (fun k => k = B) wr).set rfl _ _
  exact ⟨blk_put h.b i v ho.symm, (hc.block (B + 1) (blk_lt h.z) (by omega)).trans h.z, Chg.to_below h.by_ hc (fun k hk => by omega)⟩
theorem OpB.cells {w wr : World} {B : Nat} {o : Opr} (h : OpB w B o wr) : wr.cell? ⟨B, 0, none⟩ = some (.int .i64 o.k) ∧ wr.cell? ⟨B, 1, none⟩ = some (.int .i64 o.a) ∧ wr.cell? ⟨B, 2, none⟩ = some (.int .i64 o.b) ∧ wr.cell? ⟨B, 3, none⟩ = some (.int .i64 o.c) ∧ wr.cell? ⟨B, 4, none⟩ = some (.int .i64 o.d) ∧ ∀ k, wr.frozen? ⟨B, k, none⟩ = false :=
  ⟨(blk_cell h.b 0).trans rfl, (blk_cell h.b 1).trans rfl, (blk_cell h.b 2).trans rfl, (blk_cell h.b 3).trans rfl, (blk_cell h.b 4).trans rfl, fun k => blk_frozen h.b k⟩
set_option maxHeartbeats 8000000 in
set_option maxRecDepth 100000 in
theorem op_calls (S : Nat → Prop) (g : Nat) (K : EK) (e : Eng) (o : Opr) (w : World) (H : EngAt S w g K e) (hl : e.log.length ≤ 1000000) :
    Calls Tryz.prog 13 #[.agg #[.int .i64 o.k, .int .i64 o.a, .int .i64 o.b, .int .i64 o.c, .int .i64 o.d], .pointer (some ⟨g, 0, none⟩)] w fun en w' => ∃ o' : Opr, o'.k = o.k ∧ en = .returned (.agg #[.int .i64 o'.k, .int .i64 o'.a, .int .i64 o'.b, .int .i64 o'.c, .int .i64 o'.d]) ∧ Below w.heap.size w w' := by
  have HE := Aside0.mk H
  have HLG := Aside0.mk hl
  obtain ⟨w0, hw0⟩ : ∃ w0, w0 = (w.alloc (opO o)).alloc zO := ⟨_, rfl⟩
  have hsA : (w.alloc (opO o)).heap.size = w.heap.size + 1 := size_alloc _ _
  have HO0 := Aside0.mk (show OpB w w.heap.size o w0 from ⟨hw0 ▸ blk_below (heap_alloc_new w (opO o)) (below_alloc (Below.refl _ _) _), by rw [hw0, ← hsA]; exact heap_alloc_new _ _, hw0 ▸ below_alloc (below_alloc (Below.refl _ w) _) _⟩)
  have HW0 := Aside0.mk (show w0 = (w.alloc (.cells #[.int .i64 o.k, .int .i64 o.a, .int .i64 o.b, .int .i64 o.c, .int .i64 o.d] 39)).alloc (.cells #[.int .i64 0, .int .i64 0, .int .i64 0, .int .i64 0, .int .i64 0] 39) from hw0)
  clear hw0 H hl hsA
  go_enter Tryz.func13, Tryz.ntmps13
  go_upto_region 1 with (fail)
  rw [← HW0.out]
  obtain ⟨B, hB⟩ : ∃ B, w.heap.size = B := ⟨_, rfl⟩
  rw [hB] at HO0 ⊢
  have HBB := Aside0.mk hB
  clear hB
  obtain ⟨k, a, b, c, d⟩ := o
  obtain ⟨g0, g1, g2, g3, g4, fz⟩ := HO0.out.cells
  go_upto_block 0 with (fail)
  go_cut [] (fun wc => ∃ o' : Opr, o'.k = k ∧ Aside0 (OpB w B o' wc))
  case first =>
    by_cases h1 : k = 1
    · subst h1
      go_wp2_with (go_at_call 6; (with_reducible refine (lcut_calls a 0 8 (by decide) (by decide) (by decide) _).mono ?_); rintro en w2 ⟨rfl, rfl⟩)
      go_meet
      exact ⟨⟨1, cutF a 0 8, b, c, d⟩, rfl, ⟨HO0.out.put HBB.out 1 _ _ rfl⟩⟩
    · have e1 : (k == 1) = false := beq_eq_false_iff_ne.2 h1
      by_cases h2 : k = 2
      · subst h2
        go_wp2_with (go_at_call 6; (with_reducible refine (lcut_calls a 0 20 (by decide) (by decide) (by decide) _).mono ?_); rintro en w2 ⟨rfl, rfl⟩)
        go_meet
        exact ⟨⟨2, cutF a 0 20, b, c, d⟩, rfl, ⟨HO0.out.put HBB.out 1 _ _ rfl⟩⟩
      · have e2 : (k == 2) = false := beq_eq_false_iff_ne.2 h2
        by_cases h6 : k = 6
        · subst h6
          go_wp2_with (go_at_call 6; (with_reducible refine (lcut_calls a 0 20 (by decide) (by decide) (by decide) _).mono ?_); rintro en w2 ⟨rfl, rfl⟩)
          go_meet
          exact ⟨⟨6, cutF a 0 20, b, c, d⟩, rfl, ⟨HO0.out.put HBB.out 1 _ _ rfl⟩⟩
        · have e6 : (k == 6) = false := beq_eq_false_iff_ne.2 h6
          by_cases h5 : k = 5
          · subst h5
            obtain ⟨a', ha'⟩ : ∃ a', cutF a 0 4 = a' := ⟨_, rfl⟩
            go_upto_region 9 with (go_at_call 6; (with_reducible refine (lcut_calls a 0 4 (by decide) (by decide) (by decide) _).mono ?_); rintro en w2 ⟨rfl, rfl⟩; rw [ha'])
            obtain ⟨wa, hwa⟩ : ∃ wa, wa = w2.setCell ⟨B, 1, none⟩ (.int .i64 a') := ⟨_, rfl⟩
            rw [← hwa]
            have HOa := Aside0.mk (show OpB w B ⟨5, a', b, c, d⟩ wa from hwa ▸ HO0.out.put HBB.out 1 _ _ rfl)
            clear g0 g1 g2 g3 g4 fz hwa ha'
            obtain ⟨-, g1, g2, -, g4, fz⟩ := HOa.out.cells
            obtain ⟨x, hx⟩ : ∃ x, bits .and .i64 b 1 = x := ⟨_, rfl⟩
            by_cases hx0 : x = 0
            · subst hx0
              go_upto_region 11 with (first | simp only [hx] | (go_at_call 27; go_loud (refine (epoch_calls S g K e a' _ (HE.out.keep HOa.out.by_) HLG.out).mono ?_); rintro en w3 ⟨m, rfl, hb⟩; have HOb := Aside0.mk (HOa.out.below hb); clear g1 g2 g4 fz hb; obtain ⟨-, g1, g2, -, g4, fz⟩ := HOb.out.cells))
              obtain ⟨wb, hwb⟩ : ∃ wb, wb = w3.setCell ⟨B, 2, none⟩ (.int .i64 m) := ⟨_, rfl⟩
              rw [← hwb]
              have HOc := Aside0.mk (show OpB w B ⟨5, a', m, c, d⟩ wb from hwb ▸ HOb.out.put HBB.out 2 _ _ rfl)
              clear g1 g2 g4 fz hwb
              obtain ⟨-, -, -, -, g4, fz⟩ := HOc.out.cells
              go_wp2_with (go_at_call 6; (with_reducible refine (lcut_calls d 0 8 (by decide) (by decide) (by decide) _).mono ?_); rintro en w4 ⟨rfl, rfl⟩)
              go_meet
              exact ⟨⟨5, a', m, c, cutF d 0 8⟩, rfl, ⟨HOc.out.put HBB.out 4 _ _ rfl⟩⟩
            · have ex : (x == 0) = false := beq_eq_false_iff_ne.2 hx0
              go_upto_region 11 with (simp only [hx])
              go_wp2_with (go_at_call 6; (with_reducible refine (lcut_calls d 0 8 (by decide) (by decide) (by decide) _).mono ?_); rintro en w4 ⟨rfl, rfl⟩)
              go_meet
              exact ⟨⟨5, a', b, c, cutF d 0 8⟩, rfl, ⟨HOa.out.put HBB.out 4 _ _ rfl⟩⟩
          · have e5 : (k == 5) = false := beq_eq_false_iff_ne.2 h5
            go_wp2
            go_meet
            exact ⟨⟨k, a, b, c, d⟩, rfl, ⟨HO0.out⟩⟩
  case rest =>
    obtain ⟨⟨k2, a2, b2, c2, d2⟩, hk2, hA⟩ := hcut
    have HOf := Aside0.mk hA.out
    clear g0 g1 g2 g3 g4 fz hA
    obtain ⟨g0, g1, g2, g3, g4, fz⟩ := HOf.out.cells
    have hzb := HOf.out.z
    unfold zO at hzb
    have z0 : wc.cell? ⟨B + 1, 0, none⟩ = some (.int .i64 0) := (blk_cell hzb 0).trans rfl
    have z1 : wc.cell? ⟨B + 1, 1, none⟩ = some (.int .i64 0) := (blk_cell hzb 1).trans rfl
    have z2 : wc.cell? ⟨B + 1, 2, none⟩ = some (.int .i64 0) := (blk_cell hzb 2).trans rfl
    have z3 : wc.cell? ⟨B + 1, 3, none⟩ = some (.int .i64 0) := (blk_cell hzb 3).trans rfl
    have z4 : wc.cell? ⟨B + 1, 4, none⟩ = some (.int .i64 0) := (blk_cell hzb 4).trans rfl
    have fz2 : ∀ k, wc.frozen? ⟨B + 1, k, none⟩ = false := fun k => blk_frozen hzb k
    have HZB := Aside0.mk hzb
    have HK2 := Aside0.mk hk2
    clear hzb hk2
    go_wp2
    obtain ⟨w9, hw9⟩ : ∃ w9, w9 = ((((wc.setCell ⟨B + 1, 0, none⟩ (.int .i64 k2)).setCell ⟨B + 1, 1, none⟩ (.int .i64 a2)).setCell ⟨B + 1, 2, none⟩ (.int .i64 b2)).setCell ⟨B + 1, 3, none⟩ (.int .i64 c2)).setCell ⟨B + 1, 4, none⟩ (.int .i64 d2) := ⟨_, rfl⟩
    rw [← hw9]
    have hb9 : w9.heap[B + 1]? = some (.cells #[.int .i64 k2, .int .i64 a2, .int .i64 b2, .int .i64 c2, .int .i64 d2] 39 (0, 0)) := hw9 ▸ blk_put (blk_put (blk_put (blk_put (blk_put HZB.out 0 (.int .i64 k2) rfl) 1 (.int .i64 a2) rfl) 2 (.int .i64 b2) rfl) 3 (.int .i64 c2) rfl) 4 (.int .i64 d2) rfl
    have hc9 : Chg (fun k => k = B + 1) wc w9 := hw9 ▸ ((((((Chg.refl (fun k => k = B + 1) wc).set rfl _ _).set rfl _ _).set rfl _ _).set rfl _ _).set rfl _ _)
    have y0 : w9.cell? ⟨B + 1, 0, none⟩ = some (.int .i64 k2) := (blk_cell hb9 0).trans rfl
    have y1 : w9.cell? ⟨B + 1, 1, none⟩ = some (.int .i64 a2) := (blk_cell hb9 1).trans rfl
    have y2 : w9.cell? ⟨B + 1, 2, none⟩ = some (.int .i64 b2) := (blk_cell hb9 2).trans rfl
    have y3 : w9.cell? ⟨B + 1, 3, none⟩ = some (.int .i64 c2) := (blk_cell hb9 3).trans rfl
    have y4 : w9.cell? ⟨B + 1, 4, none⟩ = some (.int .i64 d2) := (blk_cell hb9 4).trans rfl
    refine bodyPost_ret (v := .agg #[.int .i64 k2, .int .i64 a2, .int .i64 b2, .int .i64 c2, .int .i64 d2]) (by simp [results, Tryz.results13, go_sem, y0, y1, y2, y3, y4]) rfl ?_
    exact ⟨⟨k2, a2, b2, c2, d2⟩, HK2.out, rfl, Chg.to_below HOf.out.by_ hc9 (fun k hk => by have := HBB.out; omega)⟩
end Go.Proofs.YtbpoapfkeinjnaaGreatDoor.Ld
namespace Go.Proofs.YtbpoapfkeinjnaaGreatDoor.Ld
open Go.RowKit Go.Proofs.YtbpoapfkeinjnaaGreatDoorW.PrintWords Go.Proofs.YtbpoapfkeinjnaaGreatDoorW.PrintLast Go.Proofs.YtbpoapfkeinjnaaGreatDoorW.PrintMore
set_option linter.unusedVariables false
set_option linter.unusedSimpArgs false
set_option linter.unnecessarySimpa false
attribute [local go_sem] max2_int min2_int max_two min_two
structure S29 where
  f0 : Int
  f1 : Int
def z29 : S29 := ⟨(0 : Int), (0 : Int)⟩
def k29 : Kd S29 := Kd.iso (Kd.pair (Kd.int .i64) (Kd.int .i64)) (fun x : S29 => (x.f0, x.f1))
theorem k29_open {w : World} {x : S29} {cs : List Value} (h : k29.K w x cs) : cs = [.int .i64 x.f0, .int .i64 x.f1] := by
  obtain ⟨_, _, rfl, rfl, rfl⟩ := h
  exact rfl
theorem k29_mk (w : World) (x : S29) : k29.K w x [.int .i64 x.f0, .int .i64 x.f1] := ⟨[.int .i64 x.f0], [.int .i64 x.f1], rfl, rfl, rfl⟩
structure S39 where
  f0 : Int
  f1 : Int
  f2 : Int
  f3 : Int
  f4 : Int
def z39 : S39 := ⟨(0 : Int), (0 : Int), (0 : Int), (0 : Int), (0 : Int)⟩
def k39 : Kd S39 := Kd.iso (Kd.pair (Kd.int .i64) (Kd.pair (Kd.int .i64) (Kd.pair (Kd.int .i64) (Kd.pair (Kd.int .i64) (Kd.int .i64))))) (fun x : S39 => (x.f0, x.f1, x.f2, x.f3, x.f4))
theorem k39_open {w : World} {x : S39} {cs : List Value} (h : k39.K w x cs) : cs = [.int .i64 x.f0, .int .i64 x.f1, .int .i64 x.f2, .int .i64 x.f3, .int .i64 x.f4] := by
  obtain ⟨_, _, rfl, rfl, _, _, rfl, rfl, _, _, rfl, rfl, _, _, rfl, rfl, rfl⟩ := h
  exact rfl
theorem k39_mk (w : World) (x : S39) : k39.K w x [.int .i64 x.f0, .int .i64 x.f1, .int .i64 x.f2, .int .i64 x.f3, .int .i64 x.f4] :=
  ⟨[.int .i64 x.f0], [.int .i64 x.f1, .int .i64 x.f2, .int .i64 x.f3, .int .i64 x.f4], rfl, rfl, [.int .i64 x.f1], [.int .i64 x.f2, .int .i64 x.f3, .int .i64 x.f4], rfl, rfl, [.int .i64 x.f2], [.int .i64 x.f3, .int .i64 x.f4], rfl, rfl, [.int .i64 x.f3], [.int .i64 x.f4], rfl, rfl, rfl⟩
theorem at_29 {w : World} {A : Option Addr} {n : Nat} {xs : List S29} (h : Kd.C k29 w A n xs) (i : Nat) (h1 : i < n) : ∃ ad, A = some ad ∧ w.cell? (ad.add (i * 2)) = some (.int .i64 (xs.getD i z29).f0) ∧ w.cell? ⟨(ad.add (i * 2)).block, (ad.add (i * 2)).off + 1, none⟩ = some (.int .i64 (xs.getD i z29).f1) := by
  obtain ⟨ad, c, e, _, hK, hc0⟩ := Kd.C_get h z29 (i : Int) (by omega) (by omega)
  have hc : ∀ j u, c[j]? = some u → w.cell? (ad.add (i * 2 + j)) = some u := hc0
  obtain rfl := k29_open hK
  exact ⟨ad, e, hc 0 _ rfl, by rw [← add_field _ _ 1 (by omega)]; exact hc 1 _ rfl⟩
theorem at_39 {w : World} {A : Option Addr} {n : Nat} {xs : List S39} (h : Kd.C k39 w A n xs) (i : Nat) (h1 : i < n) : ∃ ad, A = some ad ∧ w.cell? (ad.add (i * 5)) = some (.int .i64 (xs.getD i z39).f0) ∧ w.cell? ⟨(ad.add (i * 5)).block, (ad.add (i * 5)).off + 1, none⟩ = some (.int .i64 (xs.getD i z39).f1) ∧ w.cell? ⟨(ad.add (i * 5)).block, (ad.add (i * 5)).off + 2, none⟩ = some (.int .i64 (xs.getD i z39).f2) ∧ w.cell? ⟨(ad.add (i * 5)).block, (ad.add (i * 5)).off + 3, none⟩ = some (.int .i64 (xs.getD i z39).f3) ∧ w.cell? ⟨(ad.add (i * 5)).block, (ad.add (i * 5)).off + 4, none⟩ = some (.int .i64 (xs.getD i z39).f4) := by
  obtain ⟨ad, c, e, _, hK, hc0⟩ := Kd.C_get h z39 (i : Int) (by omega) (by omega)
  have hc : ∀ j u, c[j]? = some u → w.cell? (ad.add (i * 5 + j)) = some u := hc0
  obtain rfl := k39_open hK
  exact ⟨ad, e, hc 0 _ rfl, by rw [← add_field _ _ 1 (by omega)]; exact hc 1 _ rfl, by rw [← add_field _ _ 2 (by omega)]; exact hc 2 _ rfl, by rw [← add_field _ _ 3 (by omega)]; exact hc 3 _ rfl, by rw [← add_field _ _ 4 (by omega)]; exact hc 4 _ rfl⟩
def TasksP (w : World) (en : Ending) (w' : World) : Prop := ∃ (A : Option Addr) (c N : Nat) (mem cost : Nat → Int), en = .returned (.slice A N c) ∧ (1 ≤ N ∧ N ≤ 8) ∧ (∀ i, 1 ≤ mem i ∧ mem i ≤ 12 ∧ 1 ≤ cost i ∧ cost i ≤ 30) ∧ NewR w 29 2 (.slice A N c) N (flat encTd (tdsF N mem cost)) w'
set_option maxHeartbeats 8000000 in
set_option maxRecDepth 100000 in
theorem tasks_calls (A : Option Addr) (n cp : Nat) (l : List S29) (w : World) (hr : Kd.C k29 w A n l) (hn : n ≤ 9223372036854775807) : Calls Tryz.prog 11 #[.slice A n cp] w (TasksP w) := by
  have HR := Aside0.mk hr
  obtain ⟨mem, hmem⟩ : ∃ mem : Nat → Int, mem = fun i => cutF (l.getD i z29).f0 1 12 := ⟨_, rfl⟩
  obtain ⟨cost, hcost⟩ : ∃ cost : Nat → Int, cost = fun i => cutF (l.getD i z29).f1 1 30 := ⟨_, rfl⟩
  have HMC := Aside0.mk (show ∀ i, 1 ≤ mem i ∧ mem i ≤ 12 ∧ 1 ≤ cost i ∧ cost i ≤ 30 from fun i => by
    have h1 := cutF_in (l.getD i z29).f0 1 12 (by decide)
    have h2 := cutF_in (l.getD i z29).f1 1 30 (by decide)
    rw [hmem, hcost]
    exact ⟨h1.1, h1.2, h2.1, h2.2⟩)
  have HMD := Aside0.mk (And.intro hmem hcost)
  clear hr hmem hcost
  go_enter Tryz.func11, Tryz.ntmps11
  go_wp2
  go_loopg [3, 4] 10 (fun kq v3 v4 wr => ∃ i : Nat, v4 = .int .i64 (i : Int) ∧ Aside0 (kq + i = 10 ∧ i ≤ 8 ∧ i ≤ n ∧ NewR w 29 2 v3 i (flat encTd (tdsF i mem cost)) wr))
  case atStart => exact ⟨0, rfl, ⟨by omega, by omega, by omega, RowAt.nil _ _ _ _, Below.refl _ _⟩⟩
  case round =>
    obtain ⟨i, rfl, hA⟩ := hrel
    obtain ⟨hk, hi, hin, hrow⟩ := hA.out
    have HK := Aside0.mk hk
    have HW := Aside0.mk hrow
    clear hA hk hrow
    have HFIN := Aside0.mk (show 0 < i → TasksP w (.returned u3) wr from fun h0 => by
      obtain ⟨A3, c3, rfl⟩ := HW.out.1.slice
      exact ⟨A3, c3, i, mem, cost, rfl, ⟨h0, hi⟩, HMC.out, HW.out⟩)
    by_cases hlt : i < n
    · have q1 : ((i : Int) < (n : Int)) = True := eq_true (by omega)
      by_cases h8 : i < 8
      · have q2 : ((i : Int) < 8) = True := eq_true (by omega)
        have q3 : (0 ≤ (i : Int)) = True := eq_true (by omega)
        go_upto_region 5 with (fail)
        refine wp_region_any (by kernel_rfl) ?_
        obtain ⟨w1, hw1⟩ : ∃ w1 : World, w1 = { wr with drawn := wr.drawn + 1 } := ⟨_, rfl⟩
        rw [← hw1]
        have hb1 : Below wr.heap.size wr w1 := hw1 ▸ pw_below_drewN (Below.refl _ wr) 1
        have HR1 := Aside0.mk (HW.out.on hb1)
        obtain ⟨ad, rfl, c0, c1⟩ := at_29 (Kd.C_below HR.out (below_step HW.out.2 hb1)) i hlt
        obtain ⟨x0, hx0⟩ : ∃ x0, (l.getD i z29).f0 = x0 := ⟨_, rfl⟩
        obtain ⟨x1, hx1⟩ : ∃ x1, (l.getD i z29).f1 = x1 := ⟨_, rfl⟩
        have hmi : mem i = cutF x0 1 12 := by rw [HMD.out.1, ← hx0]
        have hci : cost i = cutF x1 1 30 := by rw [HMD.out.2, ← hx1]
        rw [hx0] at c0
        rw [hx1] at c1
        have QA := Aside0.mk (fun k => Calls.quiet_of ((lcut_calls x0 1 12 (by decide) (by decide) (by decide) (w1.drewN k)).mono fun _ w' ⟨h1, h2⟩ => ⟨h1, (show Drawn0 (w1.drewN k) w' from h2 ▸ Drawn0.refl _).out⟩))
        have QB := Aside0.mk (fun k => Calls.quiet_of ((lcut_calls x1 1 30 (by decide) (by decide) (by decide) (w1.drewN k)).mono fun _ w' ⟨h1, h2⟩ => ⟨h1, (show Drawn0 (w1.drewN k) w' from h2 ▸ Drawn0.refl _).out⟩))
        rw [← hmi] at QA
        rw [← hci] at QB
        obtain ⟨me, hme⟩ : ∃ me, mem i = me := ⟨_, rfl⟩
        obtain ⟨co, hco⟩ : ∃ co, cost i = co := ⟨_, rfl⟩
        rw [hme] at QA
        rw [hco] at QB
        have HMI := Aside0.mk (And.intro hme hco)
        clear hw1 hb1 hx0 hx1 hmi hci hme hco
        refine wpAny_take (i := 0) (v := u3) rfl (by kernel_rfl) (by kernel_rfl) (by kernel_rfl) (fun _ _ _ h => h) (Or.inl ⟨rfl, fun w => rfl⟩) ?_
        refine Qt.wpAny_quiet_tail 14 ((List.range 13).map (· + 1)) (fun l => (l.drop 1).take 13) _ _ rfl rfl (by kernel_rfl) ?_
        simp only [List.take_succ_cons, List.take_zero, List.drop_succ_cons, List.drop_zero, List.cons_append, List.nil_append, Act.put, List.getElem_toArray, List.getElem_cons_succ, List.getElem_cons_zero, List.setIfInBounds_toArray, List.set_cons_succ, List.set_cons_zero]
        repeat (go_big_quiet_step (first | (go_at_call 6; with_reducible exact QA.out _) | (go_at_call 6; with_reducible exact QB.out _)))
        refine wpQuiet_nil ?_
        intro w9 hw9
        have hb9 : Below w1.heap.size w1 w9 := by obtain ⟨m, rfl⟩ := hw9; exact pw_below_drewN (Below.refl _ _) m
        obtain ⟨w10, hw10⟩ : ∃ w10, w10 = w9.alloc (.cells #[.int .i64 me, .int .i64 co] 29) := ⟨_, rfl⟩
        have hb10 : Below w9.heap.size w9 w10 := hw10 ▸ below_alloc (Below.refl _ w9) _
        have HX10 := Aside0.mk (show w10.heap[w9.heap.size]? = some (.cells #[.int .i64 me, .int .i64 co] 29 (0, 0)) from hw10 ▸ heap_alloc_new w9 _)
        have HR10 := Aside0.mk ((HR1.out.on hb9).on hb10)
        have HW10 := Aside0.mk hw10
        clear hw9 hb9 hw10 hb10 c0 c1
        go_wp2_with (at_builtin; rw [← HW10.out]; go_loud (refine wp_more rfl (.tmp 15) (.tmp 29) 27 29 (.agg #[.int .i64 0, .int .i64 0]) 2 16 rfl Tryz.underlying27 info29' rfl (by decide) u3 i w9.heap.size (flat encTd (tdsF i mem cost)) [.int .i64 me, .int .i64 co] rfl rfl HR10.out rfl HX10.out (by simp [Value.oneCell']) (by omega) (by decide) ?_); (intro v6 w6 h6; have H6 := Aside0.mk h6.out.1; clear h6))
        go_roundg (gk - 1)
        case measure => have := HK.out; omega
        case rel =>
          have he : flat encTd (tdsF (i + 1) mem cost) = flat encTd (tdsF i mem cost) ++ [.int .i64 me, .int .i64 co] := by unfold tdsF; rw [map_range_succ, flat_append, HMI.out.1, HMI.out.2]; simp [flat, encTd]
          exact ⟨i + 1, by rw [show ((i : Int) + 1) = ((i + 1 : Nat) : Int) by omega], ⟨by have := HK.out; omega, by omega, by omega, by rw [he]; exact H6.out⟩⟩
      · obtain rfl : i = 8 := by omega
        obtain ⟨A3, c3, rfl⟩ := HW.out.1.slice
        go_wp2
        go_ret
        exact HFIN.out (by decide)
    · have q1 : ((i : Int) < (n : Int)) = False := eq_false (by omega)
      obtain ⟨A3, c3, rfl⟩ := HW.out.1.slice
      by_cases h0 : i = 0
      · subst h0
        obtain rfl : n = 0 := by omega
        have hn := Aside0.mk (show NewR w 29 2 (.slice A3 0 c3) 0 [] (wr.alloc (.cells #[.int .i64 1, .int .i64 1] 29)) from HW.out.on (below_alloc (Below.refl _ _) _))
        have hb := Aside0.mk (heap_alloc_new wr (.cells #[.int .i64 1, .int .i64 1] 29))
        go_wp2_with (at_builtin; go_loud (refine wp_more rfl (.tmp 34) (.tmp 36) 27 29 (.agg #[.int .i64 0, .int .i64 0]) 2 16 rfl Tryz.underlying27 info29' rfl (by decide) (.slice A3 0 c3) 0 wr.heap.size [] [.int .i64 1, .int .i64 1] rfl rfl hn.out rfl hb.out (by simp [Value.oneCell']) (by omega) (by decide) ?_); (intro v6 w6 h6; have H6 := Aside0.mk h6.out.1; clear h6))
        go_ret
        obtain ⟨A6, c6, rfl⟩ := H6.out.1.slice
        exact ⟨A6, c6, 1, fun _ => 1, fun _ => 1, rfl, ⟨by decide, by decide⟩, fun _ => (show (1 : Int) ≤ 1 ∧ (1 : Int) ≤ 12 ∧ (1 : Int) ≤ 1 ∧ (1 : Int) ≤ 30 from by decide), H6.out⟩
      · have b0 : ((i : Int) == 0) = false := beq_eq_false_iff_ne.2 (by omega)
        have b1 : ((i : Int) = 0) = False := eq_false (by omega)
        go_wp2
        go_ret
        exact HFIN.out (by omega)
end Go.Proofs.YtbpoapfkeinjnaaGreatDoor.Ld
namespace Go.Proofs.YtbpoapfkeinjnaaGreatDoor.Ld
open Go.RowKit Go.Proofs.YtbpoapfkeinjnaaGreatDoorW.PrintWords Go.Proofs.YtbpoapfkeinjnaaGreatDoorW.PrintLast Go.Proofs.YtbpoapfkeinjnaaGreatDoorW.PrintMore
set_option linter.unusedVariables false
set_option linter.unusedSimpArgs false
set_option linter.unnecessarySimpa false
set_option maxHeartbeats 8000000 in
set_option maxRecDepth 100000 in
theorem works_calls (bm : Nat) (w : World) (hv : Vars bm w) : Calls Tryz.prog 5 #[] w fun en w' => en = .returned (.bool true) ∧ Below w.heap.size w w' := by
  have HV := Aside0.mk hv
  clear hv
  have HS0 := Aside0.mk (sub_start kcW 1 1 (fun _ => 2) kcW_ok ⟨by decide, by decide⟩)
  go_enter Tryz.func5, Tryz.ntmps5
  go_upto_region 4 with (first
    | (go_at_call 12; go_loud (refine (config_calls ⟨0, 0, 0, 0, 0, 0, 0, 0, 0, 0⟩ _).mono ?_); rintro en w1 ⟨rfl, hb⟩; rw [cfgWide_zero]; have HB1 := Aside0.mk hb; clear hb)
    | (go_at_call 11; go_loud (refine (tasks_nil _).mono ?_); rintro en w2 ⟨v, rfl, hn⟩; obtain ⟨A, cl, rfl⟩ := hn.1.slice; have HN2 := Aside0.mk hn; clear hn)
    | (go_at_call 7; go_loud (refine (made_calls cfgW kcW_ok.c 1 ⟨by decide, by decide⟩ (fun _ => 1) (fun _ => 1) (fun _ _ => by decide) A cl (fun k => w1.heap.size ≤ k) _ HN2.out.1).mono ?_); rintro en w3 ⟨g, K, rfl, hg, hat, hb⟩; have HL3 := Aside0.mk (LW.start HV.out (below_step HB1.out HN2.out.2) hat hb); clear hg hat hb))
  obtain ⟨S3, hS3⟩ : ∃ S3 : Nat → Prop, (fun k => w2.heap.size ≤ k ∧ k < w3.heap.size) = S3 := ⟨_, rfl⟩
  rw [hS3] at HL3
  clear hS3
  go_upto_region 5 with (go_at_call 8; go_loud (refine (doSubmit (C := kcW) (cost := 1) (n := 1) (wt := fun _ => 2) HS0.out (by decide) ⟨by decide, by decide⟩ 2 3 rfl rfl HL3.out.at_ HL3.out.glb).mono ?_); rintro en w4 ⟨a, b, cc, d, f, er, e4, K4, rfl, hq, hto⟩; obtain ⟨rfl, -, hsub⟩ := hq.out; have HL4 := Aside0.mk (HL3.out.step hto.out); have HM4 := Aside0.mk (hsub.mid ⟨by decide, by decide⟩ (fun _ _ => ⟨by decide, by decide⟩)); clear hq hto hsub)
  obtain ⟨w5, hw5⟩ : ∃ w5, w5 = w4.alloc (.cells #[.int .i64 a, .int .i64 b, .int .i64 cc, .int .i64 d, .int .i64 f] 34) := ⟨_, rfl⟩
  rw [← hw5]
  have HL5 := Aside0.mk (HL4.out.below (show Below w4.heap.size w4 w5 from hw5 ▸ below_alloc (Below.refl _ w4) _))
  clear hw5
  obtain ⟨S5, hS5⟩ : ∃ S5 : Nat → Prop, nextS S3 w3 w4 = S5 := ⟨_, rfl⟩
  rw [hS5] at HL5
  clear hS5 HL4 HL3
  go_upto_region 6 with (go_at_call 8; go_loud (refine (doDispatch (C := kcW) (cost := 1) HM4.out ⟨by decide, by decide⟩ (by decide) (by decide) HL5.out.at_ HL5.out.glb).mono ?_); rintro en w6 ⟨a6, b6, c6, d6, f6, er, e6, K6, rfl, hq, hto⟩; obtain ⟨rfl, b, hb1, -, rfl, hep, hmid, -⟩ := hq.out; obtain rfl : b = 0 := (by omega); have HL6 := Aside0.mk (HL5.out.step hto.out); have HM6 := Aside0.mk hmid; have HEP := Aside0.mk hep; clear hq hto hmid hep hb1)
  obtain ⟨w7, hw7⟩ : ∃ w7, w7 = w6.alloc (.cells #[.int .i64 a6, .int .i64 b6, .int .i64 c6, .int .i64 0, .int .i64 f6] 34) := ⟨_, rfl⟩
  rw [← hw7]
  have HX7 := Aside0.mk (show w7.heap[w6.heap.size]? = some (.cells #[.int .i64 a6, .int .i64 b6, .int .i64 c6, .int .i64 0, .int .i64 f6] 34 (0, 0)) from hw7 ▸ heap_alloc_new w6 _)
  have HL7 := Aside0.mk (HL6.out.below (show Below w6.heap.size w6 w7 from hw7 ▸ below_alloc (Below.refl _ w6) _))
  clear hw7
  have x3 := (blk_cell HX7.out 3).trans (show _ = some (Value.int .i64 0) from rfl)
  have x4 := (blk_cell HX7.out 4).trans (show _ = some (Value.int .i64 f6) from rfl)
  obtain ⟨S7, hS7⟩ : ∃ S7 : Nat → Prop, nextS S5 w5 w6 = S7 := ⟨_, rfl⟩
  rw [hS7] at HL7
  clear hS7 HL6 HL5
  go_upto_region 7 with (go_at_call 8; go_loud (refine (doDid HM6.out rfl (by decide) HL7.out.at_ HL7.out.glb f6 HEP.out).mono ?_); rintro en w8 ⟨a8, b8, c8, d8, f8, er, e8, K8, rfl, hq, hto⟩; obtain ⟨rfl, hfin⟩ := hq.out; have HL8 := Aside0.mk (HL7.out.step hto.out); have HM8 := Aside0.mk hfin; clear hq hto hfin)
  clear x3 x4
  obtain ⟨w9, hw9⟩ : ∃ w9, w9 = w8.alloc (.cells #[.int .i64 a8, .int .i64 b8, .int .i64 c8, .int .i64 d8, .int .i64 f8] 34) := ⟨_, rfl⟩
  rw [← hw9]
  have HL9 := Aside0.mk (HL8.out.below (show Below w8.heap.size w8 w9 from hw9 ▸ below_alloc (Below.refl _ w8) _))
  clear hw9
  obtain ⟨S9, hS9⟩ : ∃ S9 : Nat → Prop, nextS S7 w7 w8 = S9 := ⟨_, rfl⟩
  rw [hS9] at HL9
  clear hS9 HL8 HL7
  go_upto_region 8 with (go_at_call 8; go_loud (refine (doQuery0 HM8.out HL9.out.at_ HL9.out.glb).mono ?_); rintro en wa ⟨aa, ba, ca, da, fa, er, ea, Ka, rfl, hq, hto⟩; obtain ⟨rfl, rfl, -⟩ := hq.out; have HLa := Aside0.mk (HL9.out.step hto.out); clear hq hto)
  obtain ⟨wb, hwb⟩ : ∃ wb, wb = wa.alloc (.cells #[.int .i64 aa, .int .i64 2, .int .i64 ca, .int .i64 da, .int .i64 fa] 34) := ⟨_, rfl⟩
  rw [← hwb]
  have HXb := Aside0.mk (show wb.heap[wa.heap.size]? = some (.cells #[.int .i64 aa, .int .i64 2, .int .i64 ca, .int .i64 da, .int .i64 fa] 34 (0, 0)) from hwb ▸ heap_alloc_new wa _)
  have HLb := Aside0.mk (HLa.out.below (show Below wa.heap.size wa wb from hwb ▸ below_alloc (Below.refl _ wa) _))
  clear hwb
  have y1 := (blk_cell HXb.out 1).trans (show _ = some (Value.int .i64 2) from rfl)
  go_wp2
  go_ret
  exact ⟨rfl, HLb.out.bel⟩
end Go.Proofs.YtbpoapfkeinjnaaGreatDoor.Ld
