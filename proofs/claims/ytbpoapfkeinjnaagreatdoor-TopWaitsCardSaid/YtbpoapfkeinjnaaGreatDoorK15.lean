/- The engine of the yard and what it leans on, part 15. -/
import Derived.Test.YtbpoapfkeinjnaaGreatDoorK14
namespace Go.Proofs.YtbpoapfkeinjnaaGreatDoor.Ld
open Go.RowKit Go.Proofs.YtbpoapfkeinjnaaGreatDoorW.PrintWords Go.Proofs.YtbpoapfkeinjnaaGreatDoorW.PrintLast Go.Proofs.YtbpoapfkeinjnaaGreatDoorW.PrintMore
set_option linter.unusedVariables false
set_option linter.unusedSimpArgs false
attribute [local go_sem] max2_int min2_int max_two min_two
theorem info52 : (Tryz.prog.info? 52).map (fun i => (i.zero, i.size, i.bytes)) = some (some (.agg #[.int .i64 0, .int .i64 0, .int .i64 0, .int .i64 0, .int .i64 0]), 5, 40) := by kernel_rfl
set_option maxHeartbeats 8000000 in
set_option maxRecDepth 100000 in
theorem there29 (S : Nat → Prop) (g : Nat) (K : EK) (e : Eng) (t : Int) (w : World) (H : EngAt S w g K e) (hN : e.N ≤ 12) :
    Calls Tryz.prog 29 #[.pointer (some ⟨g, 0, none⟩), .int .i64 t] w fun e' w' => e' = .returned (.bool (decide (0 ≤ t ∧ t < e.N))) ∧ Drawn0 w w' := by
  have c11 := H.ftasks
  clear H
  by_cases h1 : 0 ≤ t
  · by_cases h2 : t < e.N
    · have E : Aside0 (decide (0 ≤ t ∧ t < e.N) = true) := ⟨decide_eq_true ⟨h1, h2⟩⟩
      rw [E.out]
      have d1 : decide (0 ≤ t) = true := decide_eq_true h1
      have d2 : decide (t < (e.N : Int)) = true := decide_eq_true h2
      go_enter Tryz.func29, Tryz.ntmps29
      go_wp2
      go_ret
      exact ⟨rfl, by repeat (first | exact Drawn0.refl _ | apply Drawn0.step)⟩
    · have E : Aside0 (decide (0 ≤ t ∧ t < e.N) = false) := ⟨decide_eq_false (fun h => h2 h.2)⟩
      rw [E.out]
      have d1 : decide (0 ≤ t) = true := decide_eq_true h1
      have d2 : decide (t < (e.N : Int)) = false := decide_eq_false h2
      go_enter Tryz.func29, Tryz.ntmps29
      go_wp2
      go_ret
      exact ⟨rfl, by repeat (first | exact Drawn0.refl _ | apply Drawn0.step)⟩
  · have E : Aside0 (decide (0 ≤ t ∧ t < e.N) = false) := ⟨decide_eq_false (fun h => h1 h.1)⟩
    rw [E.out]
    have d1 : decide (0 ≤ t) = false := decide_eq_false h1
    go_enter Tryz.func29, Tryz.ntmps29
    go_wp2
    go_ret
    exact ⟨rfl, by repeat (first | exact Drawn0.refl _ | apply Drawn0.step)⟩
def Cells (l : List (Addr × Value)) (w : World) : Prop := ∀ p, p ∈ l → w.cell? p.1 = some p.2
structure CW (l : List (Addr × Value)) where
  w : World
  h : Cells l w
theorem Cells.get {l : List (Addr × Value)} {w : World} (h : Cells l w) (i : Nat) {a : Addr} {v : Value} (hi : l[i]? = some (a, v)) : w.cell? a = some v := h (a, v) (List.mem_of_getElem? hi)
theorem Cells.nil (w : World) : Cells [] w := fun p hp => by cases hp
theorem Cells.cons {l : List (Addr × Value)} {w : World} {a : Addr} {v : Value} (h : w.cell? a = some v) (k : Cells l w) : Cells ((a, v) :: l) w := fun p hp => by
  rcases List.mem_cons.1 hp with rfl | hp
  · exact h
  · exact k p hp
theorem Cells.below {l : List (Addr × Value)} {w w' : World} (h : Cells l w) (hb : Below w.heap.size w w') : Cells l w' := fun p hp => pw_cell_below hb (h p hp)
def evOf (e : Eng) (kind : Int) (t : Nat) : Ev := ⟨kind, (t : Int), slotI e.led (t : Int), (e.life t).epoch, e.now⟩
set_option maxHeartbeats 8000000 in
set_option maxRecDepth 100000 in
theorem notes_calls (S : Nat → Prop) (g : Nat) (K : EK) (e : Eng) (kind : Int) (t : Nat) (w : World) (H : EngAt S w g K e) (hN : e.N ≤ 12) (ht : t < e.N) (hm : e.led.many ≤ 16) (hl : e.log.length ≤ 1000000) :
    Calls Tryz.prog 81 #[.pointer (some ⟨g, 0, none⟩), .int .i64 kind, .int .i64 (t : Int)] w fun e' w' => e' = .returned (.tuple #[]) ∧ To S w g K { e with log := e.log ++ [evOf e kind t] } w' := by
  have HE := Aside0.mk H
  obtain ⟨c15, hat, _⟩ := H.led
  have HAT := Aside0.mk hat
  have HM := Aside0.mk hm
  obtain ⟨sl, hsl⟩ : ∃ sl, slotI e.led (t : Int) = sl := ⟨_, rfl⟩
  obtain ⟨sb, hsb⟩ : ∃ sb, slotB e.led (t : Int) = sb := ⟨_, rfl⟩
  have HSL := Aside0.mk hsl
  have HSB := Aside0.mk hsb
  clear hsl hsb H hat hm
  go_enter Tryz.func81, Tryz.ntmps81
  go_upto_region 1 with (go_at_call 128; (with_reducible refine (Slot_calls K.gl e.led HM.out (t : Int) _ HAT.out).mono ?_); rintro e w2 ⟨rfl, hb⟩; rw [HSL.out, HSB.out]; have HB := Aside0.mk hb; clear hb)
  refine wp_region_any (by kernel_rfl) ?_
  obtain ⟨w3, hw3⟩ : ∃ w3 : World, w3 = { w2 with drawn := w2.drawn + 1 } := ⟨_, rfl⟩
  rw [← hw3]
  have HB3 := Aside0.mk (below_step HB.out (show Below w2.heap.size w2 w3 from hw3 ▸ pw_below_drewN (Below.refl _ w2) 1))
  clear hw3 c15
  have H2 := Aside0.mk (HE.out.keep HB3.out)
  obtain ⟨S1, A, c, cs, c20, hrow, hblk, hcs, hfar, hback⟩ := H2.out.logp
  have c11 := H2.out.ftasks
  obtain ⟨ct, _, cl, _, _, _⟩ := H2.out.ftask t ht
  have c18 := H2.out.fnow
  have HROW := Aside0.mk hrow
  have HBLK := Aside0.mk hblk
  have HBACK := Aside0.mk hback
  have HLI := Aside0.mk (H2.out.flife t ht).1
  obtain ⟨ep, hep⟩ : ∃ ep, (e.life t).epoch = ep := ⟨_, rfl⟩
  have HEP := Aside0.mk hep
  obtain ⟨now, hnow⟩ : ∃ now, e.now = now := ⟨_, rfl⟩
  rw [hnow] at c18
  have HNOW := Aside0.mk hnow
  obtain ⟨L, hL⟩ : ∃ L, e.log.length = L := ⟨_, rfl⟩
  rw [hL] at c20 hl HROW hcs hfar
  have f1 := hfar g (.inl rfl)
  have f2 := hfar K.ta (.inr (.inl ⟨rfl, by omega⟩))
  have f3 := hfar (K.tp t) (.inr (.inr ⟨t, ht, rfl⟩))
  have HFAR := Aside0.mk (And.intro f1 (And.intro f2 f3))
  clear f1 f2 f3 hfar
  have HCS := Aside0.mk hcs
  have HL := Aside0.mk hL
  have q1 : (0 ≤ (t : Int)) = True := eq_true (by omega)
  have q2 : ((t : Int) < (e.N : Int)) = True := eq_true (by omega)
  clear hrow hblk hback hep hnow hL hcs
  obtain ⟨CL, hCL⟩ : ∃ CL : List (Addr × Value), CL = [(⟨g, 20, none⟩, .slice A L c), (⟨g, 11, none⟩, .slice (some ⟨K.ta, 0, none⟩) e.N K.tc), (⟨K.ta, t, none⟩, .pointer (some ⟨K.tp t, 0, none⟩)), (⟨K.tp t, 2, none⟩, .pointer (some ⟨K.lp t, 0, none⟩)), (⟨g, 18, none⟩, .int .i64 now)] := ⟨_, rfl⟩
  have k1 : ∀ x : CW CL, x.w.cell? ⟨g, 20, none⟩ = some (.slice A L c) := fun x => x.h.get 0 (by rw [hCL]; rfl)
  have k2 : ∀ x : CW CL, x.w.cell? ⟨g, 11, none⟩ = some (.slice (some ⟨K.ta, 0, none⟩) e.N K.tc) := fun x => x.h.get 1 (by rw [hCL]; rfl)
  have k3 : ∀ x : CW CL, x.w.cell? ⟨K.ta, t, none⟩ = some (.pointer (some ⟨K.tp t, 0, none⟩)) := fun x => x.h.get 2 (by rw [hCL]; rfl)
  have k4 : ∀ x : CW CL, x.w.cell? ⟨K.tp t, 2, none⟩ = some (.pointer (some ⟨K.lp t, 0, none⟩)) := fun x => x.h.get 3 (by rw [hCL]; rfl)
  have k5 : ∀ x : CW CL, x.w.cell? ⟨g, 18, none⟩ = some (.int .i64 now) := fun x => x.h.get 4 (by rw [hCL]; rfl)
  have HS := Aside0.mk (show Cells CL w3 from hCL ▸ Cells.cons c20 (Cells.cons c11 (Cells.cons ct (Cells.cons cl (Cells.cons c18 (Cells.nil _))))))
  have hne : Nonempty (CW CL) := ⟨⟨_, HS.out⟩⟩
  clear hCL
  refine wpAny_take (i := 0) (v := .pointer (some ⟨g, 0, none⟩)) rfl (by kernel_rfl) (by kernel_rfl) (by kernel_rfl) (fun _ _ _ h => h) (Or.inl ⟨rfl, fun w => rfl⟩) ?_
  refine Qt.wpAny_of_T (S := fun w' => ∃ x : CW CL, w' = x.w) (n := 25) _ _ _ _ ?_
  refine Qt.wpAnyT_batchL 7 (fun l => (l.drop 1).take 17 ++ (l.drop 19).take 4) ((List.range 17).map (· + 1) ++ [19, 20, 21, 22]) rfl (fun _ _ d _ _ h => by cases d <;> exact h) ⟨CW.mk _ HS.out, rfl⟩ rfl (by kernel_rfl) (Qt.held_start (by kernel_rfl)) (by kernel_rfl) ?_
  simp only [List.take_succ_cons, List.take_zero, List.drop_succ_cons, List.drop_zero, List.cons_append, List.nil_append, Act.put, List.getElem_toArray, List.getElem_cons_succ, List.getElem_cons_zero, List.setIfInBounds_toArray, List.set_cons_succ, List.set_cons_zero]
  repeat (go_big_quiet_step ((fail)))
  refine wpQuiet_nil ?_
  refine Qt.wpAnyT_one (i := 18) (by kernel_rfl) rfl ?_
  go_wp2_with (go_at_call 109; go_loud (refine (Epoch_calls (K.lp t) (e.life t) _ ?q1).mono ?_); (case q1 => exact HLI.out); rintro e w4 ⟨rfl, hd⟩; rw [HEP.out]; have HB4 := Aside0.mk hd.below; clear hd)
  refine ⟨fun _ => ⟨CW.mk _ (HS.out.below HB4.out), rfl⟩, ?_⟩
  refine Qt.wpAnyT_batchL 5 (fun l => (l.drop 23).take 1) [23] rfl (fun _ _ d _ _ h => by cases d <;> exact h) ⟨CW.mk _ (HS.out.below HB4.out), rfl⟩ rfl (by kernel_rfl) (Qt.held_start (by kernel_rfl)) (by kernel_rfl) ?_
  simp only [List.take_succ_cons, List.take_zero, List.drop_succ_cons, List.drop_zero, List.cons_append, List.nil_append]
  repeat (go_big_quiet_step ((fail)))
  refine wpQuiet_nil ?_
  refine Qt.wpAnyT_one (i := 24) (by kernel_rfl) rfl ?_
  go_wp2
  refine ⟨fun _ => ⟨CW.mk _ (HS.out.below (below_alloc HB4.out _)), rfl⟩, ?_⟩
  refine Qt.wpAnyT_tailL rfl (by kernel_rfl) ?_
  simp only [List.take_succ_cons, List.take_zero, List.drop_succ_cons, List.drop_zero, List.cons_append, List.nil_append]
  go_wp2_with (at_builtin; go_loud (refine wp_push_n (S := S1) (w := w3) (wb := w4) rfl (.tmp 21) (.tmp 41) 48 52 (.agg #[.int .i64 0, .int .i64 0, .int .i64 0, .int .i64 0, .int .i64 0]) 5 40 rfl Tryz.underlying48 info52 rfl (by decide) (by decide) (.slice A L c) L (flat encEv e.log) [.int .i64 kind, .int .i64 (t : Int), .int .i64 sl, .int .i64 ep, .int .i64 now] g 20 cs 72 rfl rfl rfl ?a0 ?a1 ?a2 ?a3 (by decide) ?a4 ?_); (case a0 => simp [Value.oneCell']); (case a1 => exact HROW.out); (case a2 => exact HB4.out); (case a3 => exact HBLK.out); (case a4 => omega); (intro A6 c6 w6 hpre; have d6 := (blk_cell hpre.pre.blk 20).trans HCS.out; have f6 := blk_frozen hpre.pre.blk 20; have HF := Aside0.mk hpre; clear hpre))
  go_end0
  refine ⟨rfl, ?_⟩
  have hp := HF.out.pre.post
  obtain rfl : e.log.length = L := HL.out
  have := HBACK.out (evOf e kind t) _ _ _ HB4.out (by unfold evOf encEv; rw [HSL.out, HEP.out, HNOW.out]; exact hp)
  exact To.after_below HB3.out this
end Go.Proofs.YtbpoapfkeinjnaaGreatDoor.Ld
namespace Go.Proofs.YtbpoapfkeinjnaaGreatDoor.Ld
open Go.RowKit
set_option linter.unusedVariables false
set_option linter.unusedSimpArgs false
theorem eraseIdx_first : ∀ (l : List Int) (x : Int) (i : Nat), i < l.length → l.getD i 0 = x → (∀ j, j < i → l.getD j 0 ≠ x) → l.eraseIdx i = l.erase x
  | [], _, _, h, _, _ => by simp at h
  | y :: l, x, 0, _, h, _ => by simp at h; simp [h]
  | y :: l, x, i + 1, h, h1, h2 => by
    have h0 : y ≠ x := by simpa using h2 0 (by omega)
    rw [List.eraseIdx_cons_succ, List.erase_cons_tail (by simpa using h0)]
    rw [eraseIdx_first l x i (by simpa using h) (by simpa using h1) (fun j hj => by simpa using h2 (j + 1) (by omega))]
theorem drop1_erase (l : List Int) (x : Int) : drop1 l x = l.erase x := by
  unfold drop1 indexI
  rcases fndN_cases (fun y => x == y) (fun i => l.getD i 0) l.length with ⟨h, h1⟩ | ⟨i, h, h1, h2, h3⟩
  · rw [h, if_pos (by omega)]
    refine (List.erase_of_not_mem fun hm => ?_).symm
    obtain ⟨j, hj, e⟩ := List.getElem_of_mem hm
    have := h1 j hj
    rw [List.getD_eq_getElem?_getD, List.getElem?_eq_getElem hj] at this
    simp [e] at this
  · rw [h, if_neg (by omega), Int.toNat_natCast]
    exact eraseIdx_first l x i h1 (by simpa using (beq_iff_eq.1 h2).symm) (fun j hj e => by have := h3 j hj; rw [e] at this; simp at this)
theorem indexI_mem (l : List Int) (x : Int) : 0 ≤ indexI l x ↔ x ∈ l := by
  unfold indexI
  rcases fndN_cases (fun y => x == y) (fun i => l.getD i 0) l.length with ⟨h, h1⟩ | ⟨i, h, h1, h2, h3⟩
  · rw [h]
    refine ⟨fun h => by omega, fun hm => ?_⟩
    obtain ⟨j, hj, e⟩ := List.getElem_of_mem hm
    have := h1 j hj
    rw [List.getD_eq_getElem?_getD, List.getElem?_eq_getElem hj] at this
    simp [e] at this
  · rw [h]
    refine ⟨fun _ => ?_, fun _ => by omega⟩
    have e := beq_iff_eq.1 h2
    rw [List.getD_eq_getElem?_getD, List.getElem?_eq_getElem h1] at e
    rw [e]
    exact List.getElem_mem h1
theorem placeI_index (l : List Mb) (id : Int) : placeI l id = indexI (l.map Mb.id) id := by
  unfold placeI indexI
  rw [List.length_map]
  have e : ∀ i, i < l.length → isId id (mbs l i) = (id == (l.map Mb.id).getD i 0) := fun i hi => by
    rw [List.getD_eq_getElem?_getD, List.getElem?_map, List.getElem?_eq_getElem hi]
    unfold mbs isId
    rw [List.getD_eq_getElem?_getD, List.getElem?_eq_getElem hi]
    simp only [Option.getD_some, Option.map_some]
    rw [Bool.eq_iff_iff]; simp; exact eq_comm
  rcases fndN_cases (isId id) (mbs l) l.length with ⟨h, h1⟩ | ⟨i, h, h1, h2, h3⟩
  · rw [h, fndN_none fun i hi => by rw [← e i hi]; exact h1 i hi]
  · rw [h, fndN_some h1 (by rw [← e i h1]; exact h2) fun j hj => by rw [← e j (by omega)]; exact h3 j hj]
theorem eraseIdx_map {α β : Type} (f : α → β) : ∀ (l : List α) (i : Nat), (l.eraseIdx i).map f = (l.map f).eraseIdx i
  | [], _ => rfl
  | x :: l, 0 => rfl
  | x :: l, i + 1 => by simp [eraseIdx_map f l i]
theorem leaveSt_ids (t : Tur) (id : Int) : (leaveSt t id).l.map Mb.id = (t.l.map Mb.id).erase id := by
  rw [← drop1_erase]
  unfold leaveSt drop1
  rw [placeI_index]
  split
  · rfl
  · exact eraseIdx_map _ _ _
structure AdInv (a : Adm) (nr : Nat) : Prop where
  nd : (a.l1 ++ a.l2).Nodup
  lt : ∀ x, x ∈ a.l1 ++ a.l2 → ∃ r : Nat, x = (r : Int) ∧ r < nr
  len : a.l1.length + a.l2.length ≤ nr
  cap : (a.l1.length : Int) ≤ a.m1
theorem AdInv.sub {a b : Adm} {nr : Nat} (h : AdInv a nr) (h1 : b.l1.Sublist a.l1) (h2 : b.l2.Sublist a.l2) (hm : b.m1 = a.m1) : AdInv b nr where
  nd := h.nd.sublist (h1.append h2)
  lt := fun x hx => h.lt x ((h1.append h2).subset hx)
  len := by have := h1.length_le; have := h2.length_le; have := h.len; omega
  cap := by have := h1.length_le; have := h.cap; rw [hm]; omega
theorem end_cases {a : Adm} {nr : Nat} (h : AdInv a nr) (id : Int) :
    AdInv (aEndSt a id) nr ∧ (aEndSt a id).m1 = a.m1 ∧ (aEndSt a id).m2 = a.m2 ∧ (((aEndE a id ≠ 0 ∨ aEndI a id < 0) ∧ (aEndSt a id).l1 = a.l1.erase id) ∨
      (aEndE a id = 0 ∧ ∃ n : Nat, aEndI a id = (n : Int) ∧ n < nr ∧ id ∈ a.l1 ∧ (n : Int) ∈ a.l2 ∧ (n : Int) ∉ a.l1 ∧ (aEndSt a id).l1 = a.l1.erase id ++ [(n : Int)])) := by
  unfold aEndSt aEndE aEndI
  by_cases c1 : 0 ≤ indexI a.l2 id
  · rw [if_pos c1, if_pos c1, if_pos c1, drop1_erase]
    have hm := (indexI_mem _ _).1 c1
    have hn : id ∉ a.l1 := fun h1 => by have := List.nodup_append.1 h.nd; exact this.2.2 id h1 id hm rfl
    refine ⟨h.sub (List.Sublist.refl _) List.erase_sublist rfl, rfl, rfl, .inl ⟨.inr (by omega), ?_⟩⟩
    exact (List.erase_of_not_mem hn).symm
  rw [if_neg c1, if_neg c1, if_neg c1]
  by_cases c2 : indexI a.l1 id < 0
  · rw [if_pos c2, if_pos c2, if_pos c2]
    refine ⟨h, rfl, rfl, .inl ⟨.inl (by omega), ?_⟩⟩
    exact (List.erase_of_not_mem fun hm => by have := (indexI_mem _ _).2 hm; omega).symm
  rw [if_neg c2, if_neg c2, if_neg c2]
  have hm1 : id ∈ a.l1 := (indexI_mem _ _).1 (by omega)
  by_cases c3 : a.l2 = []
  · rw [if_pos c3, if_pos c3, drop1_erase]
    exact ⟨h.sub List.erase_sublist (List.Sublist.refl _) rfl, rfl, rfl, .inl ⟨.inr (by omega), rfl⟩⟩
  rw [if_neg c3, if_neg c3]
  have hmem : aNext a ∈ a.l2 := by
    unfold aNext
    have hl := List.length_pos_iff.2 c3
    rw [List.getD_eq_getElem?_getD, List.getElem?_eq_getElem hl]
    exact List.getElem_mem hl
  obtain ⟨n, hn, hnr⟩ := h.lt _ (List.mem_append_right _ hmem)
  rw [hn] at hmem ⊢
  have hnot : (n : Int) ∉ a.l1 := fun h1 => (List.nodup_append.1 h.nd).2.2 _ h1 _ hmem rfl
  have he : (a.l1.erase id).length + 1 = a.l1.length := by have := List.length_erase_of_mem hm1; have := List.length_pos_of_mem hm1; omega
  have hadd : add1 a.m1 (drop1 a.l1 id) (n : Int) = a.l1.erase id ++ [(n : Int)] := by
    unfold add1
    rw [drop1_erase, if_neg (by have := h.cap; omega)]
  rw [hadd, drop1_erase]
  refine ⟨⟨?_, fun x hx => ?_, ?_, ?_⟩, rfl, rfl, .inr ⟨rfl, n, rfl, hnr, hm1, hmem, hnot, rfl⟩⟩
  · have hnd := List.nodup_append.1 h.nd
    show ((a.l1.erase id ++ [(n : Int)]) ++ a.l2.erase (n : Int)).Nodup
    rw [List.append_assoc, List.nodup_append]
    refine ⟨hnd.1.erase _, ?_, fun x hx y hy e => ?_⟩
    · rw [List.singleton_append, List.nodup_cons]
      exact ⟨fun hx => (hnd.2.1.mem_erase_iff.1 hx).1 rfl, hnd.2.1.erase _⟩
    · subst e
      have hx1 := List.mem_of_mem_erase hx
      rcases List.mem_cons.1 hy with rfl | hy
      · exact hnot hx1
      · exact hnd.2.2 x hx1 x (List.mem_of_mem_erase hy) rfl
  · rcases List.mem_append.1 hx with hx | hx
    · rcases List.mem_append.1 hx with hx | hx
      · exact h.lt x (List.mem_append_left _ (List.mem_of_mem_erase hx))
      · rw [List.mem_singleton] at hx; exact ⟨n, hx, hnr⟩
    · exact h.lt x (List.mem_append_right _ (List.mem_of_mem_erase hx))
  · show (a.l1.erase id ++ [(n : Int)]).length + (a.l2.erase (n : Int)).length ≤ nr
    have := List.length_erase_of_mem hmem
    have := List.length_pos_of_mem hmem
    have := h.len
    rw [List.length_append, List.length_singleton]
    omega
  · show (((a.l1.erase id ++ [(n : Int)]).length : Nat) : Int) ≤ a.m1
    rw [List.length_append, List.length_singleton]
    have := h.cap
    omega
theorem add_cases {a : Adm} {nr : Nat} (h : AdInv a nr) : (aAddE a (nr : Int) ≠ 0 ∧ aAddSt a (nr : Int) = a) ∨
    (aAddE a (nr : Int) = 0 ∧ AdInv (aAddSt a (nr : Int)) (nr + 1) ∧ (aAddSt a (nr : Int)).m1 = a.m1 ∧ (aAddSt a (nr : Int)).m2 = a.m2 ∧ ((aAddI a (nr : Int) = 1 ∧ (aAddSt a (nr : Int)).l1 = a.l1 ++ [(nr : Int)] ∧ (aAddSt a (nr : Int)).l2 = a.l2) ∨ (aAddI a (nr : Int) = 0 ∧ (aAddSt a (nr : Int)).l1 = a.l1 ∧ (aAddSt a (nr : Int)).l2 = a.l2 ++ [(nr : Int)]))) := by
  have hno : ∀ x, x ∈ a.l1 ++ a.l2 → x ≠ (nr : Int) := fun x hx e => by obtain ⟨r, h1, h2⟩ := h.lt x hx; omega
  have hs : stateB a (nr : Int) = false := by
    unfold stateB
    rw [Bool.or_eq_false_iff]
    exact ⟨decide_eq_false fun h1 => hno _ (List.mem_append_left _ ((indexI_mem _ _).1 h1)) rfl, decide_eq_false fun h1 => hno _ (List.mem_append_right _ ((indexI_mem _ _).1 h1)) rfl⟩
  have hnd := List.nodup_append.1 h.nd
  unfold aAddE aAddSt aAddI
  rw [hs]
  by_cases c1 : free1 a = true
  · rw [c1]
    refine .inr ⟨rfl, ⟨?_, fun x hx => ?_, ?_, ?_⟩, rfl, rfl, .inl ⟨rfl, rfl, rfl⟩⟩
    · show ((a.l1 ++ [(nr : Int)]) ++ a.l2).Nodup
      rw [List.append_assoc, List.nodup_append]
      refine ⟨hnd.1, ?_, fun x hx y hy e => ?_⟩
      · rw [List.singleton_append, List.nodup_cons]
        exact ⟨fun hx => hno _ (List.mem_append_right _ hx) rfl, hnd.2.1⟩
      · subst e
        rcases List.mem_cons.1 hy with rfl | hy
        · exact hno _ (List.mem_append_left _ hx) rfl
        · exact hnd.2.2 x hx x hy rfl
    · have hx' : x ∈ (a.l1 ++ [(nr : Int)]) ++ a.l2 := hx
      rcases List.mem_append.1 hx' with hx | hx
      · rcases List.mem_append.1 hx with hx | hx
        · obtain ⟨r, h1, h2⟩ := h.lt x (List.mem_append_left _ hx); exact ⟨r, h1, by omega⟩
        · rw [List.mem_singleton] at hx; exact ⟨nr, hx, by omega⟩
      · obtain ⟨r, h1, h2⟩ := h.lt x (List.mem_append_right _ hx); exact ⟨r, h1, by omega⟩
    · show (a.l1 ++ [(nr : Int)]).length + a.l2.length ≤ nr + 1
      have := h.len
      rw [List.length_append, List.length_singleton]; omega
    · show (((a.l1 ++ [(nr : Int)]).length : Nat) : Int) ≤ a.m1
      have : (a.l1.length : Int) < a.m1 := by unfold free1 at c1; exact of_decide_eq_true c1
      rw [List.length_append, List.length_singleton]; omega
  · have c1' : free1 a = false := by simpa using c1
    rw [c1']
    by_cases c2 : free2 a = true
    · rw [c2]
      refine .inr ⟨rfl, ⟨?_, fun x hx => ?_, ?_, h.cap⟩, rfl, rfl, .inr ⟨rfl, rfl, rfl⟩⟩
      · show (a.l1 ++ (a.l2 ++ [(nr : Int)])).Nodup
        rw [← List.append_assoc, List.nodup_append]
        refine ⟨h.nd, by simp, fun x hx y hy e => ?_⟩
        rw [List.mem_singleton] at hy
        exact hno x hx (e.trans hy)
      · have hx' : x ∈ a.l1 ++ (a.l2 ++ [(nr : Int)]) := hx
        rw [← List.append_assoc] at hx'
        rcases List.mem_append.1 hx' with hx | hx
        · obtain ⟨r, h1, h2⟩ := h.lt x hx; exact ⟨r, h1, by omega⟩
        · rw [List.mem_singleton] at hx; exact ⟨nr, hx, by omega⟩
      · show a.l1.length + (a.l2 ++ [(nr : Int)]).length ≤ nr + 1
        have := h.len
        rw [List.length_append, List.length_singleton]; omega
    · have c2' : free2 a = false := by simpa using c2
      rw [c2']
      exact .inl ⟨by decide, rfl⟩
end Go.Proofs.YtbpoapfkeinjnaaGreatDoor.Ld
namespace Go.Proofs.YtbpoapfkeinjnaaGreatDoor.Ld
open Go.RowKit Go.Proofs.YtbpoapfkeinjnaaGreatDoorW.PrintWords Go.Proofs.YtbpoapfkeinjnaaGreatDoorW.PrintLast Go.Proofs.YtbpoapfkeinjnaaGreatDoorW.PrintMore
set_option linter.unusedVariables false
set_option linter.unusedSimpArgs false
attribute [local go_sem] max2_int min2_int max_two min_two
structure LifeOk (b : Int) (l : LifeS) : Prop where
  st : 0 ≤ l.state ∧ l.state ≤ 7
  ep : 0 ≤ l.epoch ∧ l.epoch ≤ b
  ms : 0 ≤ l.missed ∧ l.missed ≤ l.tries
  mt : l.missed < l.tries ∨ 5 ≤ l.state
  tr : l.tries ≤ 1048576
  sp : 0 ≤ l.stopped ∧ l.stopped ≤ l.preempts
  pr : l.preempts ≤ 1048576
structure RqOk (N : Nat) (x : Rq) : Prop where
  root : ∃ r : Nat, x.root = (r : Int) ∧ r < N
  weight : 1 ≤ x.weight ∧ x.weight ≤ 100
  prio : 0 ≤ x.prio ∧ x.prio ≤ 7
structure EngInv (e : Eng) : Prop where
  N : 1 ≤ e.N ∧ e.N ≤ 12
  c : CfOk e.c
  td : ∀ i, i < e.N → 1 ≤ e.mem i ∧ e.mem i ≤ 1048576 ∧ 1 ≤ e.cost i ∧ e.cost i ≤ 1048576
  life : ∀ i, i < e.N → LifeOk e.begun (e.life i)
  nr : e.nr ≤ 64
  rq : ∀ i, i < e.nr → RqOk e.N (e.rq i)
  gN : e.gr.N = e.N
  gr : GrInv e.gr
  tm : HpInv e.tm
  tmN : e.tm.at_.length = e.N
  led : Inv e.led
  ledid : ∀ i, (e.led.p i).held = true → ∃ t : Nat, (e.led.p i).id = (t : Int) ∧ t < e.N
  ledb : e.led.budget = e.c.budget
  ad : AdInv e.ad e.nr
  tu : TurInv e.tu
  now : 0 ≤ e.now ∧ e.now ≤ 1099511627776
  begun : 0 ≤ e.begun
  room : ∃ M : Int, 0 ≤ M ∧ (∀ i, i < e.N → e.mem i ≤ M) ∧ (∀ j, (e.led.p j).mem ≤ M) ∧ ((e.led.many : Int) + 1) * M ≤ e.c.budget
theorem tot_le (p : Nat → Pl) (M : Int) (h : ∀ j, (p j).mem ≤ M) : ∀ n : Nat, tot p n ≤ (n : Int) * M
  | 0 => by simp [tot]
  | n + 1 => by
    have h1 := tot_le p M h n
    have h2 := h n
    have h3 : ((n + 1 : Nat) : Int) * M = (n : Int) * M + M := by rw [Int.natCast_add, Int.add_mul]; simp
    show tot p n + (p n).mem ≤ _
    omega
theorem EngInv.fits {e : Eng} (h : EngInv e) {i : Nat} (hi : i < e.N) : e.mem i ≤ e.led.budget - e.led.used := by
  obtain ⟨M, h0, h1, h2, h3⟩ := h.room
  have h4 := tot_le e.led.p M h2 e.led.many
  have h5 := h.led.used
  have h6 := h1 i hi
  have h7 := h.ledb
  have h8 : ((e.led.many : Int) + 1) * M = (e.led.many : Int) * M + M := by rw [Int.add_mul]; simp
  omega
def endsSt (e : Eng) (kind : Int) (t : Nat) (q : Hp) : Eng := { e with log := e.log ++ [evOf e kind t], led := freeSt e.led (t : Int), tm := q }
theorem endsSt_inv {e : Eng} (h : EngInv e) {kind : Int} {t : Nat} {q : Hp} (hq : DelRel e.tm q t) : EngInv (endsSt e kind t q) :=
  { h with
    tm := hq.inv
    tmN := hq.la.trans h.tmN
    led := inv_free h.led _
    ledid := fun i hi => by
      by_cases hf : freeErr e.led (t : Int) = 0
      · obtain ⟨j, hj⟩ := freed h.led hf
        have hi' : ((freeSt e.led (t : Int)).p i).held = true := hi
        show ∃ u : Nat, ((freeSt e.led (t : Int)).p i).id = _ ∧ _
        rw [hj.st] at hi' ⊢
        have e1 : (((e.led.uses (e.led.used - (e.led.p j).mem)).put j nobody).p i) = if i = j then nobody else e.led.p i := rfl
        rw [e1] at hi' ⊢
        by_cases hij : i = j
        · rw [if_pos hij] at hi'; cases hi'
        · rw [if_neg hij] at hi' ⊢; exact h.ledid i hi'
      · have := (free_no hf).2.1
        have hi' : ((freeSt e.led (t : Int)).p i).held = true := hi
        show ∃ u : Nat, ((freeSt e.led (t : Int)).p i).id = _ ∧ _
        rw [this] at hi' ⊢
        exact h.ledid i hi'
    ledb := (free_budget _ _).trans h.ledb
    room := by
      obtain ⟨M, h0, h1, h2, h3⟩ := h.room
      refine ⟨M, h0, h1, fun i => ?_, ?_⟩
      · show ((freeSt e.led (t : Int)).p i).mem ≤ M
        by_cases hf : freeErr e.led (t : Int) = 0
        · obtain ⟨j, hj⟩ := freed h.led hf
          rw [hj.st]
          have e1 : (((e.led.uses (e.led.used - (e.led.p j).mem)).put j nobody).p i) = if i = j then nobody else e.led.p i := rfl
          rw [e1]
          by_cases hij : i = j
          · rw [if_pos hij]; exact h0
          · rw [if_neg hij]; exact h2 i
        · rw [(free_no hf).2.1]; exact h2 i
      · show (((freeSt e.led (t : Int)).many : Int) + 1) * M ≤ e.c.budget
        rw [free_many]; exact h3 }
set_option maxHeartbeats 8000000 in
set_option maxRecDepth 100000 in
theorem ends_calls (S : Nat → Prop) (g : Nat) (K : EK) (e : Eng) (kind : Int) (t : Nat) (w : World) (H : EngAt S w g K e) (hi : EngInv e) (ht : t < e.N) (hl : e.log.length ≤ 1000000) :
    Calls Tryz.prog 47 #[.pointer (some ⟨g, 0, none⟩), .int .i64 kind, .int .i64 (t : Int)] w fun e' w' => e' = .returned (.tuple #[]) ∧ ∃ q, DelRel e.tm q t ∧ To S w g K (endsSt e kind t q) w' := by
  have HE := Aside0.mk H
  have HI := Aside0.mk hi
  have hN := hi.N.2
  clear H hi
  go_enter Tryz.func47, Tryz.ntmps47
  go_upto_region 1 with (go_at_call 81; (with_reducible refine (notes_calls S g K e kind t _ HE.out hN ht HI.out.led.many hl).mono ?_); rintro e1 w1 ⟨rfl, h1⟩; have H1 := Aside0.mk h1; clear h1)
  obtain ⟨c15, hat, hback⟩ := H1.out.1.led
  have HAT := Aside0.mk hat
  have HBACK := Aside0.mk hback
  clear hat hback
  go_upto_region 2 with (go_at_call 82; (with_reducible refine (Free_calls K.gl e.led HI.out.led.fits (t : Int) _ HAT.out).mono ?_); rintro e2 w2 ⟨rfl, h2, k2⟩; have H2 := Aside0.mk (HBACK.out _ _ h2 k2); clear h2 k2)
  obtain ⟨c14, S2, htm, hlt, hback2⟩ := H2.out.1.tm
  have HTM := Aside0.mk htm
  have HBACK2 := Aside0.mk hback2
  clear htm hback2 hlt c15
  go_wp2_with (go_at_call 83; go_loud (refine (TmStop_calls S2 K.gm e.tm t _ HTM.out HI.out.tm (by rw [HI.out.tmN]; exact ht) (by rw [HI.out.tmN]; omega)).mono ?_); rintro e3 w3 ⟨⟨b, rfl⟩, ⟨q, hq, hq2⟩, hc⟩; have HQ := Aside0.mk hq; have H3 := Aside0.mk (HBACK2.out _ _ hq2 hc); clear hq hq2 hc)
  go_end0
  exact ⟨rfl, q, HQ.out, H1.out.trans (H2.out.trans H3.out)⟩
end Go.Proofs.YtbpoapfkeinjnaaGreatDoor.Ld
namespace Go.Proofs.YtbpoapfkeinjnaaGreatDoor.Ld
open Go.RowKit Go.Proofs.YtbpoapfkeinjnaaGreatDoorW.PrintWords Go.Proofs.YtbpoapfkeinjnaaGreatDoorW.PrintLast Go.Proofs.YtbpoapfkeinjnaaGreatDoorW.PrintMore
set_option linter.unusedVariables false
set_option linter.unusedSimpArgs false
attribute [local go_sem] max2_int min2_int max_two min_two
theorem upf_self {α : Type} (f : Nat → α) (i : Nat) : upf f i (f i) = f := funext fun k => by
  by_cases h : k = i
  · rw [h, upf_same]
  · rw [upf_far _ _ _ h]
def rootN (e : Eng) (r : Nat) : Nat := (e.rq r).root.toNat
theorem rq_cells {w : World} {b : Nat} {x : Rq} (h : w.heap[b]? = some (.cells (encRq x) 93 (0, 0))) : w.cell? ⟨b, 0, none⟩ = some (.int .i64 x.root) ∧ w.cell? ⟨b, 1, none⟩ = some (.int .i64 x.weight) ∧ w.cell? ⟨b, 2, none⟩ = some (.int .i64 x.prio) ∧ w.cell? ⟨b, 3, none⟩ = some (.int .i64 x.state) ∧ ∀ k, w.frozen? ⟨b, k, none⟩ = false :=
  ⟨(blk_cell h 0).trans rfl, (blk_cell h 1).trans rfl, (blk_cell h 2).trans rfl, (blk_cell h 3).trans rfl, fun k => blk_frozen h k⟩
def beginsSt (e : Eng) (r : Nat) : Eng := { e with rq := upf e.rq r { e.rq r with state := 1 }, tu := joinSt e.tu (r : Int) (e.rq r).weight, life := upf e.life (rootN e r) (stepSt (e.life (rootN e r)) 0 1) }
theorem LifeOk.step {b : Int} {l : LifeS} (h : LifeOk b l) (a nx : Int) (h1 : 0 ≤ nx ∧ nx ≤ 7) (h2 : 5 ≤ a → 5 ≤ nx) : LifeOk b (stepSt l a nx) := by
  unfold stepSt
  split
  · next he => exact ⟨h1, h.ep, h.ms, by rcases h.mt with h3 | h3; exact .inl h3; exact .inr (h2 (he ▸ h3)), h.tr, h.sp, h.pr⟩
  · exact h
theorem EngInv.setLife {e : Eng} (h : EngInv e) (i : Nat) (l : LifeS) (hl : LifeOk e.begun l) : EngInv { e with life := upf e.life i l } :=
  { h with
    life := fun j hj => by
      show LifeOk e.begun (upf e.life i l j)
      by_cases hij : j = i
      · rw [hij, upf_same]; exact hl
      · rw [upf_far _ _ _ hij]; exact h.life j hj }
theorem EngInv.setRq {e : Eng} (h : EngInv e) (i : Nat) (x : Int) : EngInv { e with rq := upf e.rq i { e.rq i with state := x } } :=
  { h with
    rq := fun j hj => by
      show RqOk e.N (upf e.rq i _ j)
      by_cases hij : j = i
      · rw [hij, upf_same]
        have := h.rq i (hij ▸ hj)
        exact ⟨this.root, this.weight, this.prio⟩
      · rw [upf_far _ _ _ hij]; exact h.rq j hj }
theorem EngInv.setTu {e : Eng} (h : EngInv e) {t : Tur} (ht : TurInv t) : EngInv { e with tu := t } := { h with tu := ht }
theorem EngInv.root {e : Eng} (h : EngInv e) {r : Nat} (hr : r < e.nr) : (e.rq r).root = (rootN e r : Int) ∧ rootN e r < e.N := by
  obtain ⟨u, hu, hl⟩ := (h.rq r hr).root
  unfold rootN
  rw [hu, Int.toNat_natCast]
  exact ⟨rfl, hl⟩
theorem beginsSt_inv {e : Eng} (h : EngInv e) {r : Nat} (hr : r < e.nr) (hl : e.tu.l.length ≤ 64) : EngInv (beginsSt e r) :=
  ((h.setRq r 1).setTu (joinSt_inv h.tu (r : Int) (e.rq r).weight (by omega))).setLife (rootN e r) _ ((h.life _ (h.root hr).2).step 0 1 (by omega) (by omega))
set_option maxHeartbeats 8000000 in
set_option maxRecDepth 100000 in
theorem begins_calls (S : Nat → Prop) (g : Nat) (K : EK) (e : Eng) (r : Nat) (w : World) (H : EngAt S w g K e) (hi : EngInv e) (hr : r < e.nr) (hl : e.tu.l.length ≤ 64) :
    Calls Tryz.prog 42 #[.pointer (some ⟨g, 0, none⟩), .int .i64 (r : Int)] w fun e' w' => e' = .returned (.tuple #[]) ∧ To S w g K (beginsSt e r) w' := by
  have HE := Aside0.mk H
  have HI := Aside0.mk hi
  have hN := hi.N.2
  have hnr := hi.nr
  have hroot := hi.root hr
  obtain ⟨A, c, c12, cr, hb, hs⟩ := H.freq r hr
  have HB := Aside0.mk hb
  have HS := Aside0.mk (hs 1)
  obtain ⟨_, _, _, b3, f3⟩ := rq_cells hb
  obtain ⟨wt, hwt⟩ : ∃ wt, (e.rq r).weight = wt := ⟨_, rfl⟩
  obtain ⟨rt, hrt⟩ : ∃ rt, rootN e r = rt := ⟨_, rfl⟩
  rw [hrt] at hroot
  have hrt2 := hroot.2
  have HRT := Aside0.mk hroot.1
  have HRN := Aside0.mk hrt
  have HWT := Aside0.mk hwt
  have q1 : (0 ≤ (r : Int)) = True := eq_true (by omega)
  have q2 : ((r : Int) < (e.nr : Int)) = True := eq_true (by omega)
  clear H hi hb hs hroot hrt hwt
  go_enter Tryz.func42, Tryz.ntmps42
  go_upto_region 2 with (fail)
  obtain ⟨w1, hw1⟩ : ∃ w1, w1 = w.setCell ⟨K.rp r, 3, none⟩ (.int .i64 1) := ⟨_, rfl⟩
  rw [← hw1] at HS ⊢
  have hb1 : w1.heap[K.rp r]? = some (.cells (encRq { e.rq r with state := 1 }) 93 (0, 0)) := by rw [hw1]; exact blk_put HB.out 3 _ rfl
  obtain ⟨p0, p1, _, _, _⟩ := rq_cells hb1
  have d0 : w1.cell? ⟨K.rp r, 0, none⟩ = some (.int .i64 (rt : Int)) := by rw [← HRT.out]; exact p0
  have d1 : w1.cell? ⟨K.rp r, 1, none⟩ = some (.int .i64 wt) := by rw [← HWT.out]; exact p1
  clear p0 p1
  obtain ⟨c17, S2, htu, hlt, hback⟩ := HS.out.1.tu
  have HTU := Aside0.mk htu
  have HBACK := Aside0.mk hback
  clear hw1 hb1 c12 cr b3 f3 htu hback hlt
  refine Qt.wp_region_quiet_tail 10 (by kernel_rfl) (by kernel_rfl) ?_
  simp only [List.take_succ_cons, List.take_zero, List.drop_succ_cons, List.drop_zero]
  repeat (go_big_quiet_step ((fail)))
  refine wpQuiet_nil ?_
  intro w9 hw9
  obtain ⟨m9, rfl⟩ := hw9
  have hb9 : Below w1.heap.size w1 (w1.drewN m9) := pw_below_drewN (Below.refl _ _) m9
  have HD0 := Aside0.mk (pw_cell_below hb9 d0)
  obtain ⟨w9, hw9⟩ : ∃ w9, w9 = w1.drewN m9 := ⟨_, rfl⟩
  have HS9 := Aside0.mk (HS.out.then_below hb9)
  rw [← hw9] at HD0 HS9 ⊢
  clear hw9 hb9 d0 d1 c17 HTU HBACK
  obtain ⟨c17, S2, htu, hlt, hback⟩ := HS9.out.1.tu
  have HTU := Aside0.mk htu
  have HBACK := Aside0.mk hback
  clear htu hback hlt
  go_upto_region 3 with (go_at_call 74; (with_reducible refine (Join_calls S2 K.gu e.tu (r : Int) wt _ HTU.out (by omega)).mono ?_); rintro e2 w2 ⟨rfl, h2, k2⟩; have H2 := Aside0.mk (HS9.out.trans (HBACK.out _ _ h2 k2)); clear h2 k2)
  obtain ⟨_, _, _, _, hb2, _⟩ := H2.out.1.freq r hr
  obtain ⟨p0, _, _, _, _⟩ := rq_cells hb2
  have d0 : w2.cell? ⟨K.rp r, 0, none⟩ = some (.int .i64 (rt : Int)) := by
    rw [← HRT.out]
    have e0 : (upf e.rq r { e.rq r with state := 1 } r).root = (e.rq r).root := by rw [upf_same]
    rw [← e0]; exact p0
  have c11 := H2.out.1.ftasks
  obtain ⟨ct, _, cl, _, _, _⟩ := H2.out.1.ftask rt hrt2
  obtain ⟨hli, hlb⟩ := H2.out.1.flife rt hrt2
  have HLI := Aside0.mk hli
  have HLB := Aside0.mk hlb
  have q3 : (0 ≤ (rt : Int)) = True := eq_true (by omega)
  have q4 : ((rt : Int) < (e.N : Int)) = True := eq_true (by omega)
  obtain ⟨st, hst⟩ : ∃ st, (e.life rt).state = st := ⟨_, rfl⟩
  have HST := Aside0.mk hst
  have HLS := Aside0.mk (HI.out.life rt hrt2).st
  have HEQ : Aside0 (beginsSt e r = { e with rq := upf e.rq r { e.rq r with state := 1 }, tu := joinSt e.tu (r : Int) wt, life := upf e.life rt (stepSt (e.life rt) 0 1) }) := ⟨by unfold beginsSt; rw [HRN.out, HWT.out]⟩
  clear hb2 p0 hli hlb hst c17
  go_quiet (fail)
  by_cases h0 : st = 0
  · have b0 : (st == 0) = true := beq_iff_eq.2 h0
    clear h0
    go_wp2_with (first
      | (go_at_call 30; (with_reducible refine (State_calls (K.lp rt) (e.life rt) _ ?q1).mono ?_); (case q1 => exact HLI.out); rintro e3 w3 ⟨rfl, hd⟩; rw [HST.out]; have HD := Aside0.mk hd.below; have cl3 := pw_cell_below hd.below cl; clear hd)
      | (go_at_call 75; (with_reducible refine (Want_calls (K.lp rt) (e.life rt) HLS.out _ ?q1).mono ?_); (case q1 => exact HLI.out.below (below_step (pw_below_drewN (Below.refl _ w2) _) HD.out)); rintro e4 w4 ⟨rfl, h4, k4⟩; have H4 := Aside0.mk (And.intro h4 k4); clear h4 k4))
    go_end0
    exact ⟨rfl, by rw [HEQ.out]; exact H2.out.trans (HLB.out _ _ H4.out.1 ((Touch.of_below (below_step (pw_below_drewN (Below.refl _ w2) _) HD.out) _).trans H4.out.2))⟩
  · have HN0 : Aside0 (upf e.life rt (stepSt (e.life rt) 0 1) = e.life) := ⟨by unfold stepSt; rw [if_neg (by rw [HST.out]; exact h0), upf_self]⟩
    have b0 : (st == 0) = false := beq_eq_false_iff_ne.2 h0
    clear h0
    go_wp2_with (go_at_call 30; (with_reducible refine (State_calls (K.lp rt) (e.life rt) _ ?q1).mono ?_); (case q1 => exact HLI.out); rintro e3 w3 ⟨rfl, hd⟩; rw [HST.out]; have HD := Aside0.mk hd.below; clear hd)
    go_end0
    exact ⟨rfl, by rw [HEQ.out, HN0.out]; exact H2.out.then_below (below_step (pw_below_drewN (Below.refl _ w2) _) HD.out)⟩
end Go.Proofs.YtbpoapfkeinjnaaGreatDoor.Ld
namespace Go.Proofs.YtbpoapfkeinjnaaGreatDoor.Ld
open Go.RowKit Go.Proofs.YtbpoapfkeinjnaaGreatDoorW.PrintWords Go.Proofs.YtbpoapfkeinjnaaGreatDoorW.PrintLast Go.Proofs.YtbpoapfkeinjnaaGreatDoorW.PrintMore
set_option linter.unusedVariables false
set_option linter.unusedSimpArgs false
attribute [local go_sem] max2_int min2_int max_two min_two
def Sync (e : Eng) : Prop := e.tu.l.map Mb.id = e.ad.l1
theorem Sync.len {e : Eng} (h : Sync e) (hi : EngInv e) : e.tu.l.length ≤ 64 := by
  have h1 : (e.tu.l.map Mb.id).length = e.ad.l1.length := by rw [show e.tu.l.map Mb.id = e.ad.l1 from h]
  rw [List.length_map] at h1
  have := hi.ad.len
  have := hi.nr
  omega
def leftSt (e : Eng) (r : Nat) (st : Int) : Eng := { e with rq := upf e.rq r { e.rq r with state := st }, tu := leaveSt e.tu (r : Int), ad := aEndSt e.ad (r : Int) }
def leavesSt (e : Eng) (r : Nat) (st : Int) : Eng := if aEndE e.ad (r : Int) = 0 ∧ 0 ≤ aEndI e.ad (r : Int) then beginsSt (leftSt e r st) (aEndI e.ad (r : Int)).toNat else leftSt e r st
theorem leftSt_inv {e : Eng} (h : EngInv e) (hs : Sync e) (r : Nat) (st : Int) : EngInv (leftSt e r st) ∧ (leftSt e r st).tu.l.length ≤ 64 := by
  have h1 := (h.setRq r st).setTu (leave_inv h.tu (r : Int))
  refine ⟨{ h1 with ad := (end_cases h.ad (r : Int)).1 }, ?_⟩
  have hl : ((leaveSt e.tu (r : Int)).l.map Mb.id).length ≤ (e.tu.l.map Mb.id).length := by rw [leaveSt_ids]; exact List.length_erase_le
  rw [List.length_map, List.length_map] at hl
  have := hs.len h
  show (leaveSt e.tu (r : Int)).l.length ≤ 64
  omega
theorem joinSt_ok {t : Tur} {id wt : Int} (hw : 1 ≤ wt ∧ wt ≤ 100) (hn : id ∉ t.l.map Mb.id) : joinSt t id wt = { t with l := t.l ++ [⟨id, wt, 0⟩] } := by
  have : joinErr t id wt = 0 := by
    unfold joinErr
    rw [if_neg (by omega), if_neg]
    rw [placeI_index]
    exact fun h => hn ((indexI_mem _ _).1 h)
  unfold joinSt
  rw [if_pos this]
theorem leavesSt_inv {e : Eng} (h : EngInv e) (hs : Sync e) (r : Nat) (st : Int) : EngInv (leavesSt e r st) ∧ Sync (leavesSt e r st) := by
  have h1 := leftSt_inv h hs r st
  have hid : (leftSt e r st).tu.l.map Mb.id = e.ad.l1.erase (r : Int) := by
    show (leaveSt e.tu (r : Int)).l.map Mb.id = _
    rw [leaveSt_ids, show e.tu.l.map Mb.id = e.ad.l1 from hs]
  unfold leavesSt
  rcases end_cases h.ad (r : Int) with ⟨_, _, _, ⟨hno, hl⟩ | ⟨h0, n, hn, hlt, _, _, hnot, hl⟩⟩
  · rw [if_neg (by omega)]
    exact ⟨h1.1, hid.trans hl.symm⟩
  · rw [if_pos ⟨h0, by omega⟩, hn, Int.toNat_natCast]
    refine ⟨beginsSt_inv h1.1 hlt h1.2, ?_⟩
    have hw := (h1.1.rq n hlt).weight
    show (joinSt (leftSt e r st).tu (n : Int) ((leftSt e r st).rq n).weight).l.map Mb.id = (aEndSt e.ad (r : Int)).l1
    rw [joinSt_ok hw (by rw [hid]; exact fun hm => hnot (List.mem_of_mem_erase hm))]
    show ((leftSt e r st).tu.l ++ [_]).map Mb.id = _
    rw [List.map_append, hid, hl]
    rfl
set_option maxHeartbeats 8000000 in
set_option maxRecDepth 100000 in
theorem leaves_calls (S : Nat → Prop) (g : Nat) (K : EK) (e : Eng) (r : Nat) (st : Int) (w : World) (H : EngAt S w g K e) (hi : EngInv e) (hs : Sync e) (hr : r < e.nr) :
    Calls Tryz.prog 45 #[.pointer (some ⟨g, 0, none⟩), .int .i64 (r : Int), .int .i64 st] w fun e' w' => e' = .returned (.tuple #[]) ∧ To S w g K (leavesSt e r st) w' := by
  have HI := Aside0.mk hi
  have HSY := Aside0.mk hs
  have hnr := hi.nr
  obtain ⟨A, c, c12, cr, hb, hst⟩ := H.freq r hr
  have HS := Aside0.mk (hst st)
  obtain ⟨_, _, _, b3, f3⟩ := rq_cells hb
  have q1 : (0 ≤ (r : Int)) = True := eq_true (by omega)
  have q2 : ((r : Int) < (e.nr : Int)) = True := eq_true (by omega)
  clear H hi hb hst hs
  go_enter Tryz.func45, Tryz.ntmps45
  go_upto_region 1 with (fail)
  obtain ⟨w1, hw1⟩ : ∃ w1, w1 = w.setCell ⟨K.rp r, 3, none⟩ (.int .i64 st) := ⟨_, rfl⟩
  rw [← hw1] at HS ⊢
  clear hw1 c12 cr b3 f3
  obtain ⟨c17, S2, htu, hlt, hback⟩ := HS.out.1.tu
  have HTU := Aside0.mk htu
  have HBACK := Aside0.mk hback
  clear htu hback hlt
  go_upto_region 2 with (go_at_call 77; (with_reducible refine (Leave_calls S2 K.gu e.tu (r : Int) _ HTU.out HI.out.tu).mono ?_); rintro e2 w2 ⟨rfl, h2, k2⟩; have H2 := Aside0.mk (HS.out.trans (HBACK.out _ _ (h2.mono fun k _ hk => .inl hk) k2)); clear h2 k2)
  obtain ⟨c16, S3, had, hlt, hback⟩ := H2.out.1.ad
  have HAD := Aside0.mk had
  have HBACK3 := Aside0.mk hback
  have HOK := Aside0.mk (show AdmOk e.ad from by have := HI.out.ad.len; exact ⟨by omega, by omega⟩)
  clear had hback hlt c17
  obtain ⟨ei, hei⟩ : ∃ ei, aEndI e.ad (r : Int) = ei := ⟨_, rfl⟩
  obtain ⟨ee, hee⟩ : ∃ ee, aEndE e.ad (r : Int) = ee := ⟨_, rfl⟩
  have HEI := Aside0.mk hei
  have HEE := Aside0.mk hee
  have HEQ : Aside0 (leavesSt e r st = if ee = 0 ∧ 0 ≤ ei then beginsSt (leftSt e r st) ei.toNat else leftSt e r st) := ⟨by unfold leavesSt; rw [hei, hee]⟩
  clear hei hee
  go_upto_region 3 with (go_at_call 78; (with_reducible refine (AEnd_calls (r : Int) _ HAD.out HOK.out).mono ?_); rintro e3 w3 ⟨rfl, h3, k3⟩; rw [HEI.out, HEE.out]; have H3 := Aside0.mk (show To S w g K (leftSt e r st) w3 from H2.out.trans (HBACK3.out _ _ h3 k3)); clear h3 k3)
  by_cases h0 : ee = 0
  · by_cases h1 : 0 ≤ ei
    · obtain ⟨n, rfl⟩ : ∃ n : Nat, ei = (n : Int) := ⟨ei.toNat, by omega⟩
      have hn : n < e.nr := by
        rcases end_cases HI.out.ad (r : Int) with ⟨_, _, _, ⟨hno, _⟩ | ⟨_, n', hn', hlt, _⟩⟩
        · rw [HEI.out, HEE.out] at hno; omega
        · rw [HEI.out] at hn'; omega
      have HNL := Aside0.mk (show n < (leftSt e r st).nr from hn)
      have HEQ2 : Aside0 (leavesSt e r st = beginsSt (leftSt e r st) n) := ⟨by rw [HEQ.out, if_pos ⟨h0, h1⟩, Int.toNat_natCast]⟩
      have b0 : (ee == 0) = true := beq_iff_eq.2 h0
      have b1 : decide (0 ≤ (n : Int)) = true := decide_eq_true h1
      clear h0 h1
      go_wp2_with (go_at_call 42; (go_loud (refine (begins_calls _ g K (leftSt e r st) n _ H3.out.1 (leftSt_inv HI.out HSY.out r st).1 HNL.out (leftSt_inv HI.out HSY.out r st).2).mono ?_)); rintro e4 w4 ⟨rfl, h4⟩; have H4 := Aside0.mk (H3.out.trans h4); clear h4)
      go_end0
      exact ⟨rfl, by rw [HEQ2.out]; exact H4.out⟩
    · have HEQ2 : Aside0 (leavesSt e r st = leftSt e r st) := ⟨by rw [HEQ.out, if_neg (fun h => h1 h.2)]⟩
      have b0 : (ee == 0) = true := beq_iff_eq.2 h0
      have b1 : decide (0 ≤ ei) = false := decide_eq_false h1
      clear h0 h1
      go_wp2
      go_end0
      exact ⟨rfl, by rw [HEQ2.out]; exact H3.out⟩
  · have HEQ2 : Aside0 (leavesSt e r st = leftSt e r st) := ⟨by rw [HEQ.out, if_neg (fun h => h0 h.1)]⟩
    have b0 : (ee == 0) = false := beq_eq_false_iff_ne.2 h0
    clear h0
    go_wp2
    go_end0
    exact ⟨rfl, by rw [HEQ2.out]; exact H3.out⟩
end Go.Proofs.YtbpoapfkeinjnaaGreatDoor.Ld
