/- The engine of the yard and what it leans on, part 16. -/
import Derived.Test.YtbpoapfkeinjnaaGreatDoorK15
namespace Go.Proofs.YtbpoapfkeinjnaaGreatDoor.Ld
open Go.RowKit Go.Proofs.YtbpoapfkeinjnaaGreatDoorW.PrintWords Go.Proofs.YtbpoapfkeinjnaaGreatDoorW.PrintLast Go.Proofs.YtbpoapfkeinjnaaGreatDoorW.PrintMore
set_option linter.unusedVariables false
set_option linter.unusedSimpArgs false
attribute [local go_sem] max2_int min2_int max_two min_two
def verdI (st : Int) : Int := if st = 5 then 2 else if st = 6 then 3 else if st = 7 then 4 else 0
structure Verd (bm : Nat) (w : World) : Prop where
  cell : w.cell? ⟨0, 0, none⟩ = some (.map (some bm))
  lt : 0 < w.heap.size ∧ bm < w.heap.size
  look : ∀ w' : World, w'.heap[bm]? = w.heap[bm]? → ∀ k : Int, 5 ≤ k → k ≤ 7 → (Instr.lookup 148 (.map (some bm)) (.int .i64 k) false).run Tryz.prog w' = .ok (.int .i64 (verdI k)) w'
structure Glb (bm : Nat) (S : Nat → Prop) (w : World) : Prop where
  tz : TzTab w
  vd : Verd bm w
  lt : 1 < w.heap.size
  n0 : ¬ S 0
  n1 : ¬ S 1
  nb : ¬ S bm
theorem cell_keep {w w' : World} {a : Addr} {v : Value} (h : w.cell? a = some v) (hb : w'.heap[a.block]? = w.heap[a.block]?) : w'.cell? a = some v := (World.cell?_of_block hb).trans h
theorem Glb.to {bm : Nat} {S : Nat → Prop} {w w' : World} (h : Glb bm S w) (hc : Chg S w w') : Glb bm (up S w w') w' where
  tz := fun j hj => cell_keep (h.tz j hj) (hc.block 1 h.lt h.n1)
  vd := ⟨cell_keep h.vd.cell (hc.block 0 h.vd.lt.1 h.n0), ⟨Nat.lt_of_lt_of_le h.vd.lt.1 hc.size, Nat.lt_of_lt_of_le h.vd.lt.2 hc.size⟩, fun w2 hw2 => h.vd.look w2 (hw2.trans (hc.block bm h.vd.lt.2 h.nb))⟩
  lt := Nat.lt_of_lt_of_le h.lt hc.size
  n0 := fun e => by rcases e with e | e; exact h.n0 e; have := h.lt; omega
  n1 := fun e => by rcases e with e | e; exact h.n1 e; have := h.lt; omega
  nb := fun e => by rcases e with e | e; exact h.nb e; have := h.vd.lt.2; omega
theorem Glb.below {bm : Nat} {S : Nat → Prop} {w w' : World} (h : Glb bm S w) (hb : Below w.heap.size w w') : Glb bm S w' where
  tz := fun j hj => pw_cell_below hb (h.tz j hj)
  vd := ⟨pw_cell_below hb h.vd.cell, ⟨Nat.lt_of_lt_of_le h.vd.lt.1 hb.size, Nat.lt_of_lt_of_le h.vd.lt.2 hb.size⟩, fun w2 hw2 => h.vd.look w2 (hw2.trans (hb.block bm h.vd.lt.2))⟩
  lt := Nat.lt_of_lt_of_le h.lt hb.size
  n0 := h.n0
  n1 := h.n1
  nb := h.nb
inductive Over : Eng → Eng → Prop
  | done (e : Eng) (h : ∀ r : Nat, (r : Int) ∈ e.ad.l1 → (e.life (rootN e r)).state < 5) : Over e e
  | step {e e' : Eng} (r : Nat) (hr : (r : Int) ∈ e.ad.l1) (hf : 5 ≤ (e.life (rootN e r)).state) (k : Over (leavesSt e r (verdI (e.life (rootN e r)).state)) e') : Over e e'
theorem end_len {a : Adm} {nr : Nat} (h : AdInv a nr) {id : Int} (hm : id ∈ a.l1) : (aEndSt a id).l1.length + (aEndSt a id).l2.length + 1 = a.l1.length + a.l2.length := by
  have hn2 : id ∉ a.l2 := fun h2 => (List.nodup_append.1 h.nd).2.2 id hm id h2 rfl
  have c1 : ¬ 0 ≤ indexI a.l2 id := fun e => hn2 ((indexI_mem _ _).1 e)
  have c2 : ¬ indexI a.l1 id < 0 := fun e => by have := (indexI_mem _ _).2 hm; omega
  have he : (a.l1.erase id).length + 1 = a.l1.length := by have := List.length_erase_of_mem hm; have := List.length_pos_of_mem hm; omega
  unfold aEndSt
  rw [if_neg c1, if_neg c2]
  by_cases c3 : a.l2 = []
  · rw [if_pos c3, drop1_erase]
    show (a.l1.erase id).length + a.l2.length + 1 = _
    omega
  · rw [if_neg c3]
    have hmem : aNext a ∈ a.l2 := by
      unfold aNext
      have hl := List.length_pos_iff.2 c3
      rw [List.getD_eq_getElem?_getD, List.getElem?_eq_getElem hl]
      exact List.getElem_mem hl
    have hadd : add1 a.m1 (drop1 a.l1 id) (aNext a) = a.l1.erase id ++ [aNext a] := by
      unfold add1
      rw [drop1_erase, if_neg (by have := h.cap; omega)]
    rw [hadd, drop1_erase]
    show (a.l1.erase id ++ [aNext a]).length + (a.l2.erase (aNext a)).length + 1 = _
    have := List.length_erase_of_mem hmem
    have := List.length_pos_of_mem hmem
    rw [List.length_append, List.length_singleton]
    omega
theorem leavesSt_ad (e : Eng) (r : Nat) (st : Int) : (leavesSt e r st).ad = aEndSt e.ad (r : Int) := by unfold leavesSt; split <;> rfl
theorem leavesSt_len {e : Eng} (h : EngInv e) {r : Nat} (hm : (r : Int) ∈ e.ad.l1) (st : Int) : (leavesSt e r st).ad.l1.length + (leavesSt e r st).ad.l2.length + 1 = e.ad.l1.length + e.ad.l2.length := by
  rw [leavesSt_ad]; exact end_len h.ad hm
theorem Over.inv {e e' : Eng} (h : Over e e') (hi : EngInv e) (hs : Sync e) : EngInv e' ∧ Sync e' := by
  induction h with
  | done e _ => exact ⟨hi, hs⟩
  | step r hr hf k ih =>
    exact ih (leavesSt_inv hi hs r _).1 (leavesSt_inv hi hs r _).2
def OFrame (g : Nat) (a : Act) : Prop := ∃ u : Nat → Value, a = { tmps := #[.pointer (some ⟨g, 0, none⟩), u 1, u 2, u 3, u 4, u 5, u 6, u 7, u 8, u 9, u 10, u 11, u 12, u 13, u 14, u 15, u 16, u 17, u 18, u 19, u 20, u 21, u 22, u 23, u 24, u 25, u 26, u 27, u 28, u 29, u 30, u 31, u 32, u 33, u 34, u 35, u 36, u 37, u 38, u 39, u 40, u 41, u 42, u 43, u 44, u 45, u 46, u 47], defers := [] }
theorem OFrame_mk (g : Nat) (u1 u2 u3 u4 u5 u6 u7 u8 u9 u10 u11 u12 u13 u14 u15 u16 u17 u18 u19 u20 u21 u22 u23 u24 u25 u26 u27 u28 u29 u30 u31 u32 u33 u34 u35 u36 u37 u38 u39 u40 u41 u42 u43 u44 u45 u46 u47 : Value) :
    OFrame g { tmps := #[.pointer (some ⟨g, 0, none⟩), u1, u2, u3, u4, u5, u6, u7, u8, u9, u10, u11, u12, u13, u14, u15, u16, u17, u18, u19, u20, u21, u22, u23, u24, u25, u26, u27, u28, u29, u30, u31, u32, u33, u34, u35, u36, u37, u38, u39, u40, u41, u42, u43, u44, u45, u46, u47], defers := [] } :=
  ⟨fun i => [u1, u2, u3, u4, u5, u6, u7, u8, u9, u10, u11, u12, u13, u14, u15, u16, u17, u18, u19, u20, u21, u22, u23, u24, u25, u26, u27, u28, u29, u30, u31, u32, u33, u34, u35, u36, u37, u38, u39, u40, u41, u42, u43, u44, u45, u46, u47].getD (i - 1) undef, rfl⟩
structure OLab (S : Nat → Prop) (g : Nat) (K : EK) (e : Eng) (w0 : World) (n : Nat) (a : Act) (w : World) : Prop where
  fr : OFrame g a
  st : ∃ e1, (∀ e', Over e1 e' → Over e e') ∧ EngInv e1 ∧ Sync e1 ∧ To S w0 g K e1 w ∧ n = e1.ad.l1.length + e1.ad.l2.length
def OverPost (S : Nat → Prop) (g : Nat) (K : EK) (e : Eng) (w : World) (en : Ending) (w' : World) : Prop := en = .returned (.tuple #[]) ∧ ∃ e', Over e e' ∧ To S w g K e' w'
set_option maxHeartbeats 8000000 in
set_option maxRecDepth 100000 in
theorem over_calls (S : Nat → Prop) (bm g : Nat) (K : EK) (e : Eng) (w : World) (H : EngAt S w g K e) (hi : EngInv e) (hs : Sync e) (hg : Glb bm S w) :
    Calls Tryz.prog 43 #[.pointer (some ⟨g, 0, none⟩)] w (OverPost S g K e w) := by
  have HE := Aside0.mk H
  have HI0 := Aside0.mk hi
  have HS0 := Aside0.mk hs
  have HG0 := Aside0.mk hg
  clear H hi hs hg
  go_enter Tryz.func43, Tryz.ntmps43
  go_wp2
  refine wp_scope_ghost 0 (fun n a w' => OLab S g K e w n a w') rfl ?pass ?first
  case first =>
    intro hpass
    have HPASS := Aside0.mk hpass
    clear hpass
    refine wp_seq ?_
    go_step3
    exact HPASS.out _ _ _ ⟨OFrame_mk .., e, fun _ h => h, HI0.out, HS0.out, To.refl HE.out, rfl⟩
  intro n a w1 h
  obtain ⟨hfr, e1, hov, hi, hs, hto, hn⟩ := h
  obtain ⟨u, rfl⟩ := hfr
  have HOV := Aside0.mk hov
  have HI := Aside0.mk hi
  have HS := Aside0.mk hs
  have HTO := Aside0.mk hto
  have HN := Aside0.mk hn
  have HG := Aside0.mk (HG0.out.to hto.2)
  obtain ⟨c16, S3, had, _, _⟩ := hto.1.ad
  have HAD := Aside0.mk had
  have HOK := Aside0.mk (show AdmOk e1.ad from by have := hi.ad.len; have := hi.nr; exact ⟨by omega, by omega⟩)
  have hN := hi.N.2
  have hnr := hi.nr
  have hla := hi.ad.len
  obtain ⟨L, hL⟩ : ∃ L, e1.ad.l1.length = L := ⟨_, rfl⟩
  rw [hL] at hla
  have hL64 : L ≤ 64 := by omega
  have HL := Aside0.mk hL
  clear hov hi hs hto hn had hL hla
  go_upto_block 0 with (go_at_call 50; (with_reducible refine (Actives_calls _ HAD.out HOK.out).mono ?_); rintro en w2 ⟨A6, c6, rfl, hri, _, hb⟩; rw [HL.out]; have HRI := Aside0.mk hri; have HB2 := Aside0.mk hb; clear hri hb)
  go_wp2
  go_loopg [11] (L + 1) (fun kq v11 wr => ∃ i : Nat, v11 = .int .i64 (i : Int) ∧ Aside0 (kq + i = L + 1 ∧ i ≤ L ∧ (∀ j, j < i → ∀ r : Nat, e1.ad.l1.getD j 0 = (r : Int) → (e1.life (rootN e1 r)).state < 5) ∧ Below w2.heap.size w2 wr))
  case atStart => exact ⟨0, rfl, ⟨by omega, by omega, fun j hj => absurd hj (Nat.not_lt_zero _), Below.refl _ _⟩⟩
  case round =>
    obtain ⟨i, rfl, hA⟩ := hrel
    obtain ⟨hk, hi, hall, hbr⟩ := hA.out
    have HALL := Aside0.mk hall
    have HBR := Aside0.mk hbr
    have HK := Aside0.mk hk
    have HT := Aside0.mk (HTO.out.then_below (below_step HB2.out hbr))
    clear hA hall hbr hk
    by_cases hlt : i < L
    · have hmem : e1.ad.l1.getD i 0 ∈ e1.ad.l1 := by
        rw [List.getD_eq_getElem?_getD, List.getElem?_eq_getElem (by rw [HL.out]; exact hlt)]
        exact List.getElem_mem _
      obtain ⟨r, hr, hrn⟩ := HI.out.ad.lt _ (List.mem_append_left _ hmem)
      rw [hr] at hmem
      obtain ⟨ad, rfl, hcell⟩ := RI.at_ (ReadsOf.below HRI.out HBR.out) i (by rw [HL.out]; exact hlt)
      rw [hr] at hcell
      have hroot := HI.out.root hrn
      obtain ⟨rt, hrt⟩ : ∃ rt, rootN e1 r = rt := ⟨_, rfl⟩
      rw [hrt] at hroot
      have hrt2 := hroot.2
      have HRT := Aside0.mk hroot.1
      have HRN := Aside0.mk hrt
      have HR := Aside0.mk hr
      have HMEM := Aside0.mk hmem
      obtain ⟨A, c, c12, cr, hb, _⟩ := HT.out.1.freq r hrn
      obtain ⟨p0, _, _, _, _⟩ := rq_cells hb
      rw [hroot.1] at p0
      have c11 := HT.out.1.ftasks
      obtain ⟨ct, _, cl, _, _, _⟩ := HT.out.1.ftask rt hrt2
      have HLI := Aside0.mk (HT.out.1.flife rt hrt2).1
      obtain ⟨st, hst⟩ : ∃ st, (e1.life rt).state = st := ⟨_, rfl⟩
      have HST := Aside0.mk hst
      have q1 : (0 ≤ (r : Int)) = True := eq_true (by omega)
      have q2 : ((r : Int) < (e1.nr : Int)) = True := eq_true (by omega)
      have q3 : (0 ≤ (rt : Int)) = True := eq_true (by omega)
      have q4 : ((rt : Int) < (e1.N : Int)) = True := eq_true (by omega)
      have q5 : (0 ≤ (i : Int)) = True := eq_true (by omega)
      have q6 : ((i : Int) < (L : Int)) = True := eq_true (by omega)
      clear hroot hrt hr hmem hb hst
      go_upto_region 3 with (fail)
      go_quiet (fail)
      have hbq : Below wr.heap.size wr (wr.drewN nq) := pw_below_drewN (Below.refl _ _) _
      by_cases h5 : 5 ≤ st
      · have b5 : decide (5 ≤ st) = true := decide_eq_true h5
        have hs7 := (HI.out.life rt hrt2).st.2
        rw [HST.out] at hs7
        have HST57 := Aside0.mk (And.intro h5 hs7)
        have HF := Aside0.mk h5
        have HBQ := Aside0.mk hbq
        clear h5 hbq hs7
        go_upto_region 5 with (go_at_call 76; (with_reducible refine (Final_calls (K.lp rt) (e1.life rt) _ ?q1).mono ?_); (case q1 => exact HLI.out.below HBQ.out); rintro en3 w3 ⟨rfl, hd⟩; rw [HST.out]; have HD := Aside0.mk hd.below; clear hd)
        have hb3 := below_step HBQ.out HD.out
        have HT3 := Aside0.mk (HT.out.then_below hb3)
        have HG3 := Aside0.mk (HG0.out.to HT3.out.2)
        have cl3 := pw_cell_below hb3 cl
        have HLI3 := Aside0.mk (HLI.out.below hb3)
        have cg := HG3.out.vd.cell
        have hlook : ∀ n : Nat, (Instr.lookup 148 (.map (some bm)) (.int .i64 st) false).run Tryz.prog (w3.drewN n) = .ok (.int .i64 (verdI st)) (w3.drewN n) := fun n => HG3.out.vd.look (w3.drewN n) rfl st HST57.out.1 HST57.out.2
        have QS := Aside0.mk (fun n => Calls.quiet_of ((State_calls (K.lp rt) (e1.life rt) (w3.drewN n) HLI3.out).mono fun _ _ ⟨h1, h2⟩ => ⟨h1, h2.out⟩))
        rw [HST.out] at QS
        clear hb3 c11 c12 cr ct cl p0 hcell
        refine Qt.wp_region_quiet_tail 9 (by kernel_rfl) (by kernel_rfl) ?_
        simp only [List.take_succ_cons, List.take_zero, List.drop_succ_cons, List.drop_zero]
        repeat (go_big_quiet_step ((go_at_call 30; exact QS.out _)))
        refine wpQuiet_nil ?_
        intro w9 hw9
        have HT9 := Aside0.mk (HT3.out.then_below (show Below w3.heap.size w3 w9 from by obtain ⟨m, rfl⟩ := hw9; exact pw_below_drewN (Below.refl _ _) m))
        clear hw9 hlook cg cl3
        go_wp2_with (go_at_call 45; go_loud (refine (leaves_calls _ g K e1 r (verdI st) _ HT9.out.1 HI.out HS.out hrn).mono ?_); rintro en4 w4 ⟨rfl, h4⟩; have HT4 := Aside0.mk (HT9.out.trans h4); clear h4)
        go_step3
        have hlen := leavesSt_len HI.out HMEM.out (verdI st)
        refine ⟨rfl, _, ?_, OFrame_mk .., leavesSt e1 r (verdI st), fun e' h => HOV.out _ (.step r HMEM.out (by rw [HRN.out, HST.out]; exact HF.out) (by rw [HRN.out, HST.out]; exact h)), (leavesSt_inv HI.out HS.out r _).1, (leavesSt_inv HI.out HS.out r _).2, HT4.out, rfl⟩
        have := HN.out
        omega
      · have b5 : decide (5 ≤ st) = false := decide_eq_false h5
        have H5 := Aside0.mk h5
        have HBQ := Aside0.mk hbq
        clear h5 hbq
        go_wp2_with (go_at_call 76; (with_reducible refine (Final_calls (K.lp rt) (e1.life rt) _ ?q1).mono ?_); (case q1 => exact HLI.out.below HBQ.out); rintro en3 w3 ⟨rfl, hd⟩; rw [HST.out]; have HD := Aside0.mk hd.below; clear hd)
        go_roundg (gk - 1)
        case measure => have := HK.out; omega
        case rel =>
          refine ⟨i + 1, by rw [show ((i : Int) + 1) = ((i + 1 : Nat) : Int) by omega], ⟨by have := HK.out; omega, by omega, fun j hj r' hr' => ?_, below_step HBR.out (below_step HBQ.out HD.out)⟩⟩
          rcases Nat.lt_succ_iff_lt_or_eq.1 hj with h | rfl
          · exact HALL.out j h r' hr'
          · rw [HR.out] at hr'
            obtain rfl : r = r' := by omega
            rw [HRN.out, HST.out]
            have := H5.out
            omega
    · have p2 : ((i : Int) < (L : Int)) = False := eq_false (by omega)
      go_wp2
      go_end0
      have hi' : i = L := by omega
      subst hi'
      refine ⟨rfl, e1, HOV.out _ (.done e1 fun r hm => ?_), HT.out⟩
      obtain ⟨j, hj, hje⟩ := List.getElem_of_mem hm
      exact HALL.out j (by have := HL.out; omega) r (by rw [List.getD_eq_getElem?_getD, List.getElem?_eq_getElem hj]; exact hje)
end Go.Proofs.YtbpoapfkeinjnaaGreatDoor.Ld
namespace Go.Proofs.YtbpoapfkeinjnaaGreatDoor.Ld
open Go.RowKit Go.Proofs.YtbpoapfkeinjnaaGreatDoorW.PrintWords Go.Proofs.YtbpoapfkeinjnaaGreatDoorW.PrintLast Go.Proofs.YtbpoapfkeinjnaaGreatDoorW.PrintMore
set_option linter.unusedVariables false
set_option linter.unusedSimpArgs false
attribute [local go_sem] max2_int min2_int max_two min_two
set_option maxHeartbeats 8000000 in
set_option maxRecDepth 100000 in
theorem ofFall_calls (b : Nat) (w : World) (h0 : w.cell? ⟨b, 0, none⟩ = some (.int .i64 3)) (h1 : w.cell? ⟨b, 1, none⟩ = some (.int .i64 0)) : Calls Tryz.prog 89 #[.slice (some ⟨b, 0, none⟩) 2 2] w fun e w' => e = .returned (.int .u8 9) ∧ Drawn0 w w' := by
  go_enter Tryz.func89, Tryz.ntmps89
  go_wp2
  go_loopg [2, 7] 3 (fun kq v2 v7 wr => ((kq = 3 ∧ v2 = .int .u8 0 ∧ v7 = .int .i64 0) ∨ (kq = 2 ∧ v2 = .int .u8 8 ∧ v7 = .int .i64 1) ∨ (kq = 1 ∧ v2 = .int .u8 9 ∧ v7 = .int .i64 2)) ∧ Drawn0 w wr)
  case atStart => exact ⟨.inl ⟨rfl, rfl, rfl⟩, by repeat (first | exact Drawn0.refl _ | apply Drawn0.step)⟩
  case round =>
    obtain ⟨hrel, ⟨m1, rfl⟩⟩ := hrel
    rcases hrel with ⟨rfl, rfl, rfl⟩ | ⟨rfl, rfl, rfl⟩ | ⟨rfl, rfl, rfl⟩
    · go_wp2
      go_roundg 2
      case measure => omega
      case rel => exact ⟨.inr (.inl ⟨rfl, rfl, rfl⟩), by repeat (first | exact Drawn0.refl _ | apply Drawn0.step)⟩
    · go_wp2
      go_roundg 1
      case measure => omega
      case rel => exact ⟨.inr (.inr ⟨rfl, rfl, rfl⟩), by repeat (first | exact Drawn0.refl _ | apply Drawn0.step)⟩
    · go_wp2
      go_ret
      exact ⟨rfl, by repeat (first | exact Drawn0.refl _ | apply Drawn0.step)⟩
set_option maxHeartbeats 8000000 in
set_option maxRecDepth 100000 in
theorem ofTurn_calls (b : Nat) (w : World) (h0 : w.cell? ⟨b, 0, none⟩ = some (.int .i64 0)) (h1 : w.cell? ⟨b, 1, none⟩ = some (.int .i64 1)) (h2 : w.cell? ⟨b, 2, none⟩ = some (.int .i64 2)) (h3 : w.cell? ⟨b, 3, none⟩ = some (.int .i64 3)) (h4 : w.cell? ⟨b, 4, none⟩ = some (.int .i64 4)) :
    Calls Tryz.prog 89 #[.slice (some ⟨b, 0, none⟩) 5 5] w fun e w' => e = .returned (.int .u8 31) ∧ Drawn0 w w' := by
  go_enter Tryz.func89, Tryz.ntmps89
  go_wp2
  go_loopg [2, 7] 6 (fun kq v2 v7 wr => ((kq = 6 ∧ v2 = .int .u8 0 ∧ v7 = .int .i64 0) ∨ (kq = 5 ∧ v2 = .int .u8 1 ∧ v7 = .int .i64 1) ∨ (kq = 4 ∧ v2 = .int .u8 3 ∧ v7 = .int .i64 2) ∨ (kq = 3 ∧ v2 = .int .u8 7 ∧ v7 = .int .i64 3) ∨ (kq = 2 ∧ v2 = .int .u8 15 ∧ v7 = .int .i64 4) ∨ (kq = 1 ∧ v2 = .int .u8 31 ∧ v7 = .int .i64 5)) ∧ Drawn0 w wr)
  case atStart => exact ⟨.inl ⟨rfl, rfl, rfl⟩, by repeat (first | exact Drawn0.refl _ | apply Drawn0.step)⟩
  case round =>
    obtain ⟨hrel, ⟨m1, rfl⟩⟩ := hrel
    rcases hrel with ⟨rfl, rfl, rfl⟩ | ⟨rfl, rfl, rfl⟩ | ⟨rfl, rfl, rfl⟩ | ⟨rfl, rfl, rfl⟩ | ⟨rfl, rfl, rfl⟩ | ⟨rfl, rfl, rfl⟩
    · go_wp2
      go_roundg 5
      case measure => omega
      case rel => exact ⟨.inr (.inl ⟨rfl, rfl, rfl⟩), by repeat (first | exact Drawn0.refl _ | apply Drawn0.step)⟩
    · go_wp2
      go_roundg 4
      case measure => omega
      case rel => exact ⟨.inr (.inr (.inl ⟨rfl, rfl, rfl⟩)), by repeat (first | exact Drawn0.refl _ | apply Drawn0.step)⟩
    · go_wp2
      go_roundg 3
      case measure => omega
      case rel => exact ⟨.inr (.inr (.inr (.inl ⟨rfl, rfl, rfl⟩))), by repeat (first | exact Drawn0.refl _ | apply Drawn0.step)⟩
    · go_wp2
      go_roundg 2
      case measure => omega
      case rel => exact ⟨.inr (.inr (.inr (.inr (.inl ⟨rfl, rfl, rfl⟩)))), by repeat (first | exact Drawn0.refl _ | apply Drawn0.step)⟩
    · go_wp2
      go_roundg 1
      case measure => omega
      case rel => exact ⟨.inr (.inr (.inr (.inr (.inr ⟨rfl, rfl, rfl⟩)))), by repeat (first | exact Drawn0.refl _ | apply Drawn0.step)⟩
    · go_wp2
      go_ret
      exact ⟨rfl, by repeat (first | exact Drawn0.refl _ | apply Drawn0.step)⟩
def fallSt (s : LifeS) : LifeS := if s.state = 3 ∨ s.state = 0 then { s with state := 6 } else s
def turnSt (s : LifeS) : LifeS := if s.state < 5 then { s with state := 7 } else s
def StepTo (g : Nat) (s' : LifeS) (w : World) (e : Ending) (w' : World) : Prop := (∃ er : Int, e = .returned (.int .i64 er)) ∧ LifeAt w' g s' ∧ Touch g w w'
set_option maxHeartbeats 8000000 in
set_option maxRecDepth 100000 in
theorem step9_calls (g : Nat) (s : LifeS) (h0 : 0 ≤ s.state ∧ s.state ≤ 7) (w : World) (ha : LifeAt w g s) :
    Calls Tryz.prog 88 #[.pointer (some ⟨g, 0, none⟩), .int .u8 9, .int .i64 6] w (StepTo g (fallSt s) w) := by
  have c0 := ha.c0
  have f0 := ha.frozen 0
  have HA := Aside0.mk ha
  obtain ⟨k, hk⟩ : ∃ k, s.state = k := ⟨_, rfl⟩
  rw [hk] at c0 h0
  have E1 : Aside0 (fallSt s = if k = 3 ∨ k = 0 then { s with state := 6 } else s) := ⟨by unfold fallSt; rw [hk]⟩
  have hc : k = 0 ∨ k = 1 ∨ k = 2 ∨ k = 3 ∨ k = 4 ∨ k = 5 ∨ k = 6 ∨ k = 7 := by omega
  clear h0 ha hk
  rcases hc with rfl | rfl | rfl | rfl | rfl | rfl | rfl | rfl
  all_goals
    go_enter Tryz.func88, Tryz.ntmps88
    go_wp2
    go_ret
    exact ⟨⟨_, rfl⟩, by first | (rw [E1.out, if_pos (by decide)]; exact HA.out.put0 6) | (rw [E1.out, if_neg (by decide)]; exact HA.out), by first | exact Touch.refl g w | exact (Touch.refl g w).set _ _⟩
set_option maxHeartbeats 8000000 in
set_option maxRecDepth 100000 in
theorem step31_calls (g : Nat) (s : LifeS) (h0 : 0 ≤ s.state ∧ s.state ≤ 7) (w : World) (ha : LifeAt w g s) :
    Calls Tryz.prog 88 #[.pointer (some ⟨g, 0, none⟩), .int .u8 31, .int .i64 7] w (StepTo g (turnSt s) w) := by
  have c0 := ha.c0
  have f0 := ha.frozen 0
  have HA := Aside0.mk ha
  obtain ⟨k, hk⟩ : ∃ k, s.state = k := ⟨_, rfl⟩
  rw [hk] at c0 h0
  have E1 : Aside0 (turnSt s = if k < 5 then { s with state := 7 } else s) := ⟨by unfold turnSt; rw [hk]⟩
  have hc : k = 0 ∨ k = 1 ∨ k = 2 ∨ k = 3 ∨ k = 4 ∨ k = 5 ∨ k = 6 ∨ k = 7 := by omega
  clear h0 ha hk
  rcases hc with rfl | rfl | rfl | rfl | rfl | rfl | rfl | rfl
  all_goals
    go_enter Tryz.func88, Tryz.ntmps88
    go_wp2
    go_ret
    exact ⟨⟨_, rfl⟩, by first | (rw [E1.out, if_pos (by decide)]; exact HA.out.put0 7) | (rw [E1.out, if_neg (by decide)]; exact HA.out), by first | exact Touch.refl g w | exact (Touch.refl g w).set _ _⟩
set_option maxHeartbeats 8000000 in
set_option maxRecDepth 100000 in
theorem Fall_calls (g : Nat) (s : LifeS) (h0 : 0 ≤ s.state ∧ s.state ≤ 7) (w : World) (ha : LifeAt w g s) : Calls Tryz.prog 118 #[.pointer (some ⟨g, 0, none⟩)] w (StepTo g (fallSt s) w) := by
  have HA := Aside0.mk ha
  clear ha
  go_enter Tryz.func118, Tryz.ntmps118
  go_wp2_with (first
      | (go_at_call 89; (with_reducible refine (ofFall_calls _ _ ?h0 ?h1).mono ?_); (case h0 => exact (blk_cell (blk_new w _) 0).trans rfl); (case h1 => exact (blk_cell (blk_new w _) 1).trans rfl); rintro e w1 ⟨rfl, hd⟩; have D1 := Aside0.mk (below_step (below_alloc (Below.refl _ w) _) hd.below); clear hd)
      | (go_at_call 88; (with_reducible refine (step9_calls g s h0 _ ?ha).mono ?_); (case ha => exact HA.out.below D1.out); rintro e w2 ⟨⟨er, rfl⟩, hA, hT⟩; have A2 := Aside0.mk hA; have T2 := Aside0.mk ((Touch.of_below D1.out g).trans hT); clear hA hT))
  go_ret
  exact ⟨⟨_, rfl⟩, A2.out, T2.out⟩
set_option maxHeartbeats 8000000 in
set_option maxRecDepth 100000 in
theorem Turn_calls (g : Nat) (s : LifeS) (h0 : 0 ≤ s.state ∧ s.state ≤ 7) (w : World) (ha : LifeAt w g s) : Calls Tryz.prog 119 #[.pointer (some ⟨g, 0, none⟩)] w (StepTo g (turnSt s) w) := by
  have HA := Aside0.mk ha
  clear ha
  go_enter Tryz.func119, Tryz.ntmps119
  go_wp2_with (first
      | (go_at_call 89; (with_reducible refine (ofTurn_calls _ _ ?h0 ?h1 ?h2 ?h3 ?h4).mono ?_); (case h0 => exact (blk_cell (blk_new w _) 0).trans rfl); (case h1 => exact (blk_cell (blk_new w _) 1).trans rfl); (case h2 => exact (blk_cell (blk_new w _) 2).trans rfl); (case h3 => exact (blk_cell (blk_new w _) 3).trans rfl); (case h4 => exact (blk_cell (blk_new w _) 4).trans rfl); rintro e w1 ⟨rfl, hd⟩; have D1 := Aside0.mk (below_step (below_alloc (Below.refl _ w) _) hd.below); clear hd)
      | (go_at_call 88; (with_reducible refine (step31_calls g s h0 _ ?ha).mono ?_); (case ha => exact HA.out.below D1.out); rintro e w2 ⟨⟨er, rfl⟩, hA, hT⟩; have A2 := Aside0.mk hA; have T2 := Aside0.mk ((Touch.of_below D1.out g).trans hT); clear hA hT))
  go_ret
  exact ⟨⟨_, rfl⟩, A2.out, T2.out⟩
set_option maxHeartbeats 8000000 in
set_option maxRecDepth 100000 in
theorem Stopped_calls (g : Nat) (s : LifeS) (w : World) (ha : LifeAt w g s) : Calls Tryz.prog 146 #[.pointer (some ⟨g, 0, none⟩)] w fun e w' => e = .returned (.int .i64 s.stopped) ∧ Drawn0 w w' := by
  have c := ha.c3
  go_enter Tryz.func146, Tryz.ntmps146
  go_wp2
  go_ret
  exact ⟨rfl, by repeat (first | exact Drawn0.refl _ | apply Drawn0.step)⟩
theorem LifeAt.put3 {w : World} {g : Nat} {s : LifeS} (h : LifeAt w g s) (n : Int) : LifeAt (w.setCell ⟨g, 3, none⟩ (.int .i64 n)) g { s with stopped := n } := blk_put h 3 _ rfl
def stopSt (s : LifeS) : LifeS := if s.state = 2 ∧ s.stopped < s.preempts then { s with state := 1, stopped := s.stopped + 1 } else s
set_option maxHeartbeats 8000000 in
set_option maxRecDepth 100000 in
theorem LStop_calls (g : Nat) (s : LifeS) (h0 : 0 ≤ s.state ∧ s.state ≤ 7) (hs : 0 ≤ s.stopped ∧ s.stopped ≤ 1000000000) (w : World) (ha : LifeAt w g s) : Calls Tryz.prog 99 #[.pointer (some ⟨g, 0, none⟩)] w (StepTo g (stopSt s) w) := by
  have HA := Aside0.mk ha
  have c0 := ha.c0
  have c3 := ha.c3
  have c5 := ha.c5
  obtain ⟨st, hst⟩ : ∃ st, s.state = st := ⟨_, rfl⟩
  obtain ⟨sp, hsp⟩ : ∃ sp, s.stopped = sp := ⟨_, rfl⟩
  obtain ⟨pr, hpr⟩ : ∃ pr, s.preempts = pr := ⟨_, rfl⟩
  have HST := Aside0.mk (And.intro hst (And.intro hsp hpr))
  have H0 := Aside0.mk h0
  rw [hst] at c0
  rw [hsp] at c3 hs
  rw [hpr] at c5
  have hmask : Mask 2 4 := by unfold Mask; omega
  have HM := Aside0.mk hmask
  clear ha hst hsp hpr h0 hmask
  by_cases h1 : st = 2
  · have b1 : (st == 2) = true := beq_iff_eq.2 h1
    by_cases h2 : sp < pr
    · have b2 : decide (pr ≤ sp) = false := decide_eq_false (by omega)
      have ER : Aside0 (stepErr s 2 = 0) := ⟨if_pos (HST.out.1.trans h1)⟩
      have ES : Aside0 (stepSt s 2 1 = { s with state := 1 }) := ⟨if_pos (HST.out.1.trans h1)⟩
      have EF : Aside0 (stopSt s = { s with state := 1, stopped := sp + 1 }) := ⟨by unfold stopSt; rw [if_pos ⟨HST.out.1.trans h1, by rw [HST.out.2.1, HST.out.2.2]; exact h2⟩, HST.out.2.1]⟩
      clear h1 h2
      go_enter Tryz.func99, Tryz.ntmps99
      go_wp2
      go_quiet (fail)
      go_wp2_with (first
        | (go_at_call 89; (with_reducible refine (of1_calls 2 4 HM.out _ _ ?hc).mono ?_); (case hc => exact lit_cell _ _); rintro e w1 ⟨rfl, hd⟩; have D1 := Aside0.mk (below_step (pw_below_drewN (Below.refl _ w) nq) (below_step (below_alloc (Below.refl _ _) _) hd.below)); clear hd)
        | (go_at_call 88; (with_reducible refine (step_r 2 4 1 HM.out H0.out ER.out _ ?ha).mono ?_); (case ha => exact HA.out.below D1.out); rintro e w2 ⟨rfl, hA, hT⟩; have A2 := Aside0.mk hA; have T2 := Aside0.mk ((Touch.of_below D1.out g).trans hT); have l9 := hA.c3; rw [ES.out] at l9; have l3 : w2.cell? ⟨g, 3, none⟩ = some (.int .i64 sp) := l9.trans (by rw [← HST.out.2.1]); clear l9; have f3 := hA.frozen 3; clear hA hT))
      go_ret
      refine ⟨⟨_, rfl⟩, ?_, T2.out.set _ _⟩
      have h2 := A2.out
      rw [ES.out] at h2
      rw [EF.out]
      exact h2.put3 _
    · have b2 : decide (pr ≤ sp) = true := decide_eq_true (by omega)
      have EF : Aside0 (stopSt s = s) := ⟨by unfold stopSt; rw [if_neg (fun h => h2 (by rw [← HST.out.2.1, ← HST.out.2.2]; exact h.2))]⟩
      clear h1 h2
      go_enter Tryz.func99, Tryz.ntmps99
      go_wp2
      go_quiet (fail)
      go_wp2
      go_ret
      exact ⟨⟨_, rfl⟩, by rw [EF.out]; exact HA.out.below (pw_below_drewN (Below.refl _ w) _), Touch.of_below (pw_below_drewN (Below.refl _ w) _) g⟩
  · have b1 : (st == 2) = false := beq_eq_false_iff_ne.2 h1
    have ER : Aside0 (stepErr s 2 = 8) := ⟨if_neg (fun h => h1 (HST.out.1.symm.trans h))⟩
    have ES : Aside0 (stepSt s 2 1 = s) := ⟨if_neg (fun h => h1 (HST.out.1.symm.trans h))⟩
    have EF : Aside0 (stopSt s = s) := ⟨by unfold stopSt; rw [if_neg (fun h => h1 (HST.out.1.symm.trans h.1))]⟩
    clear h1
    go_enter Tryz.func99, Tryz.ntmps99
    go_wp2
    go_quiet (fail)
    go_wp2_with (first
        | (go_at_call 89; (with_reducible refine (of1_calls 2 4 HM.out _ _ ?hc).mono ?_); (case hc => exact lit_cell _ _); rintro e w1 ⟨rfl, hd⟩; have D1 := Aside0.mk (below_step (pw_below_drewN (Below.refl _ w) nq) (below_step (below_alloc (Below.refl _ _) _) hd.below)); clear hd)
        | (go_at_call 88; (with_reducible refine (step_r 2 4 1 HM.out H0.out ER.out _ ?ha).mono ?_); (case ha => exact HA.out.below D1.out); rintro e w2 ⟨rfl, hA, hT⟩; have A2 := Aside0.mk hA; have T2 := Aside0.mk ((Touch.of_below D1.out g).trans hT); clear hA hT))
    go_ret
    refine ⟨⟨_, rfl⟩, ?_, T2.out⟩
    have h2 := A2.out
    rw [ES.out] at h2
    rw [EF.out]
    exact h2
end Go.Proofs.YtbpoapfkeinjnaaGreatDoor.Ld
namespace Go.Proofs.YtbpoapfkeinjnaaGreatDoor.Ld
open Go.RowKit Go.Proofs.YtbpoapfkeinjnaaGreatDoorW.PrintWords Go.Proofs.YtbpoapfkeinjnaaGreatDoorW.PrintLast Go.Proofs.YtbpoapfkeinjnaaGreatDoorW.PrintMore
set_option linter.unusedVariables false
set_option linter.unusedSimpArgs false
attribute [local go_sem] max2_int min2_int max_two min_two
def followL (l : LifeS) (st : Int) : LifeS := if st = 5 then stepSt l 3 1 else if st = 6 then fallSt l else turnSt l
def followSt (e : Eng) (u : Nat) (st : Int) : Eng := { e with waits := upf e.waits u (-1), life := upf e.life u (followL (e.life u) st) }
theorem LifeOk.fall {b : Int} {l : LifeS} (h : LifeOk b l) : LifeOk b (fallSt l) := by
  unfold fallSt
  split
  · exact ⟨by show 0 ≤ (6 : Int) ∧ (6 : Int) ≤ 7; omega, h.ep, h.ms, .inr (by show 5 ≤ (6 : Int); omega), h.tr, h.sp, h.pr⟩
  · exact h
theorem LifeOk.turn {b : Int} {l : LifeS} (h : LifeOk b l) : LifeOk b (turnSt l) := by
  unfold turnSt
  split
  · exact ⟨by show 0 ≤ (7 : Int) ∧ (7 : Int) ≤ 7; omega, h.ep, h.ms, .inr (by show 5 ≤ (7 : Int); omega), h.tr, h.sp, h.pr⟩
  · exact h
theorem LifeOk.follow {b : Int} {l : LifeS} (h : LifeOk b l) (st : Int) : LifeOk b (followL l st) := by
  unfold followL
  split
  · exact h.step 3 1 (by omega) (by omega)
  · split
    · exact h.fall
    · exact h.turn
theorem EngInv.setWaits {e : Eng} (h : EngInv e) (f : Nat → Int) : EngInv { e with waits := f } := { h with }
theorem EngInv.setSince {e : Eng} (h : EngInv e) (f : Nat → Int) : EngInv { e with since := f } := { h with }
theorem followSt_inv {e : Eng} (h : EngInv e) {u : Nat} (hu : u < e.N) (st : Int) : EngInv (followSt e u st) := (h.setWaits (upf e.waits u (-1))).setLife u _ ((h.life u hu).follow st)
theorem followSt_sync {e : Eng} (h : Sync e) (u : Nat) (st : Int) : Sync (followSt e u st) := h
set_option maxHeartbeats 8000000 in
set_option maxRecDepth 100000 in
theorem follows_calls (S : Nat → Prop) (g : Nat) (K : EK) (e : Eng) (u : Nat) (st : Int) (w : World) (H : EngAt S w g K e) (hi : EngInv e) (hu : u < e.N) :
    Calls Tryz.prog 111 #[.pointer (some ⟨K.tp u, 0, none⟩), .int .i64 st] w fun en w' => en = .returned (.bool (decide (5 ≤ (followL (e.life u) st).state))) ∧ To S w g K (followSt e u st) w' := by
  have HI := Aside0.mk hi
  obtain ⟨_, _, _, c3, _, f3⟩ := H.ftask u hu
  have HS := Aside0.mk (H.stask u hu (-1)).1
  have f3' := f3 3
  obtain ⟨fb, hfb⟩ : ∃ fb, decide (5 ≤ (followL (e.life u) st).state) = fb := ⟨_, rfl⟩
  have HFB := Aside0.mk hfb
  have HLS := Aside0.mk (hi.life u hu).st
  rw [hfb]
  clear H hi f3 hfb
  by_cases h5 : st = 5
  · have EF : Aside0 (followL (e.life u) st = stepSt (e.life u) 3 1) := ⟨if_pos h5⟩
    have b5 : (st == 5) = true := beq_iff_eq.2 h5
    clear h5
    go_enter Tryz.func111, Tryz.ntmps111
    go_upto_region 2 with (fail)
    obtain ⟨w1, hw1⟩ : ∃ w1, w1 = w.setCell ⟨K.tp u, 3, none⟩ (.int .i64 (-1)) := ⟨_, rfl⟩
    rw [← hw1] at HS ⊢
    obtain ⟨_, _, cl, _, _, _⟩ := HS.out.1.ftask u hu
    obtain ⟨hli, hlb⟩ := HS.out.1.flife u hu
    have HLI := Aside0.mk hli
    have HLB := Aside0.mk hlb
    clear hw1 c3 f3' hli hlb
    go_upto_region 8 with (go_at_call 148; (with_reducible refine (Wake_calls (K.lp u) (e.life u) HLS.out _ HLI.out).mono ?_); rintro e2 w2 ⟨rfl, h2, k2⟩; have H2 := Aside0.mk (HLB.out _ _ h2 k2); have HL2 := Aside0.mk h2; clear h2 k2)
    obtain ⟨_, _, cl2, _, _, _⟩ := H2.out.1.ftask u hu
    clear cl
    go_wp2_with (go_at_call 76; (with_reducible refine (Final_calls (K.lp u) _ _ HL2.out).mono ?_); rintro e3 w3 ⟨rfl, hd⟩; rw [← EF.out, HFB.out]; have HD := Aside0.mk hd.below; clear hd)
    go_ret
    exact ⟨rfl, by unfold followSt; rw [EF.out]; exact (HS.out.trans H2.out).then_below HD.out⟩
  · have b5 : (st == 5) = false := beq_eq_false_iff_ne.2 h5
    by_cases h6 : st = 6
    · have EF : Aside0 (followL (e.life u) st = fallSt (e.life u)) := ⟨by unfold followL; rw [if_neg h5, if_pos h6]⟩
      have b6 : (st == 6) = true := beq_iff_eq.2 h6
      clear h5 h6
      go_enter Tryz.func111, Tryz.ntmps111
      go_upto_region 2 with (fail)
      obtain ⟨w1, hw1⟩ : ∃ w1, w1 = w.setCell ⟨K.tp u, 3, none⟩ (.int .i64 (-1)) := ⟨_, rfl⟩
      rw [← hw1] at HS ⊢
      obtain ⟨_, _, cl, _, _, _⟩ := HS.out.1.ftask u hu
      obtain ⟨hli, hlb⟩ := HS.out.1.flife u hu
      have HLI := Aside0.mk hli
      have HLB := Aside0.mk hlb
      clear hw1 c3 f3' hli hlb
      go_upto_region 8 with (go_at_call 118; (with_reducible refine (Fall_calls (K.lp u) (e.life u) HLS.out _ HLI.out).mono ?_); rintro e2 w2 ⟨⟨er, rfl⟩, h2, k2⟩; have H2 := Aside0.mk (HLB.out _ _ h2 k2); have HL2 := Aside0.mk h2; clear h2 k2)
      obtain ⟨_, _, cl2, _, _, _⟩ := H2.out.1.ftask u hu
      clear cl
      go_wp2_with (go_at_call 76; (with_reducible refine (Final_calls (K.lp u) _ _ HL2.out).mono ?_); rintro e3 w3 ⟨rfl, hd⟩; rw [← EF.out, HFB.out]; have HD := Aside0.mk hd.below; clear hd)
      go_ret
      exact ⟨rfl, by unfold followSt; rw [EF.out]; exact (HS.out.trans H2.out).then_below HD.out⟩
    · have EF : Aside0 (followL (e.life u) st = turnSt (e.life u)) := ⟨by unfold followL; rw [if_neg h5, if_neg h6]⟩
      have b6 : (st == 6) = false := beq_eq_false_iff_ne.2 h6
      clear h5 h6
      go_enter Tryz.func111, Tryz.ntmps111
      go_upto_region 2 with (fail)
      obtain ⟨w1, hw1⟩ : ∃ w1, w1 = w.setCell ⟨K.tp u, 3, none⟩ (.int .i64 (-1)) := ⟨_, rfl⟩
      rw [← hw1] at HS ⊢
      obtain ⟨_, _, cl, _, _, _⟩ := HS.out.1.ftask u hu
      obtain ⟨hli, hlb⟩ := HS.out.1.flife u hu
      have HLI := Aside0.mk hli
      have HLB := Aside0.mk hlb
      clear hw1 c3 f3' hli hlb
      go_upto_region 8 with (go_at_call 119; (with_reducible refine (Turn_calls (K.lp u) (e.life u) HLS.out _ HLI.out).mono ?_); rintro e2 w2 ⟨⟨er, rfl⟩, h2, k2⟩; have H2 := Aside0.mk (HLB.out _ _ h2 k2); have HL2 := Aside0.mk h2; clear h2 k2)
      obtain ⟨_, _, cl2, _, _, _⟩ := H2.out.1.ftask u hu
      clear cl
      go_wp2_with (go_at_call 76; (with_reducible refine (Final_calls (K.lp u) _ _ HL2.out).mono ?_); rintro e3 w3 ⟨rfl, hd⟩; rw [← EF.out, HFB.out]; have HD := Aside0.mk hd.below; clear hd)
      go_ret
      exact ⟨rfl, by unfold followSt; rw [EF.out]; exact (HS.out.trans H2.out).then_below HD.out⟩
end Go.Proofs.YtbpoapfkeinjnaaGreatDoor.Ld
namespace Go.Proofs.YtbpoapfkeinjnaaGreatDoor.Ld
open Go.RowKit Go.Proofs.YtbpoapfkeinjnaaGreatDoorW.PrintWords Go.Proofs.YtbpoapfkeinjnaaGreatDoorW.PrintLast Go.Proofs.YtbpoapfkeinjnaaGreatDoorW.PrintMore
set_option linter.unusedVariables false
set_option linter.unusedSimpArgs false
structure QAt (base : Nat) (w : World) (b off n cap : Nat) (xs : List Int) : Prop where
  lo : base ≤ b
  blk : ∃ cur, w.heap[b]? = some (.cells cur 3 (0, 0)) ∧ off + cap ≤ cur.size ∧ ∀ i, i < n → cur[off + i]? = some (.int .i64 (xs.getD i 0))
  le : n ≤ cap
  len : xs.length = n
theorem QAt.cell {base : Nat} {w : World} {b off n cap : Nat} {xs : List Int} (h : QAt base w b off n cap xs) (i : Nat) (hi : i < n) : w.cell? ⟨b, off + i, none⟩ = some (.int .i64 (xs.getD i 0)) := by
  obtain ⟨cur, hb, _, hc⟩ := h.blk
  exact (blk_cell hb _).trans (hc i hi)
theorem QAt.same {base : Nat} {w w' : World} {b off n cap : Nat} {xs : List Int} (h : QAt base w b off n cap xs) (hb : w'.heap[b]? = w.heap[b]?) : QAt base w' b off n cap xs := by
  obtain ⟨cur, h1, h2⟩ := h.blk
  exact ⟨h.lo, ⟨cur, hb.trans h1, h2⟩, h.le, h.len⟩
theorem QAt.lt {base : Nat} {w : World} {b off n cap : Nat} {xs : List Int} (h : QAt base w b off n cap xs) : b < w.heap.size := by
  obtain ⟨cur, h1, h2⟩ := h.blk
  exact blk_lt h1
theorem QAt.below {base : Nat} {w w' : World} {b off n cap : Nat} {xs : List Int} (h : QAt base w b off n cap xs) (hb : Below w.heap.size w w') : QAt base w' b off n cap xs := h.same (hb.block b h.lt)
theorem QAt.new (w : World) (base : Nat) (x : Int) (hb : base ≤ w.heap.size) : QAt base (w.alloc (.cells #[.int .i64 x] 3)) w.heap.size 0 1 1 [x] :=
  ⟨hb, ⟨_, heap_alloc_new w _, by simp, fun i hi => (by obtain rfl : i = 0 := (by omega); rfl)⟩, Nat.le_refl _, rfl⟩
theorem QAt.tail {base : Nat} {w : World} {b off n cap : Nat} {x : Int} {xs : List Int} (h : QAt base w b off (n + 1) (cap + 1) (x :: xs)) : QAt base w b (off + 1) n cap xs := by
  obtain ⟨cur, h1, h2, h3⟩ := h.blk
  refine ⟨h.lo, ⟨cur, h1, by omega, fun i hi => ?_⟩, by have := h.le; omega, by have := h.len; simpa using this⟩
  have := h3 (i + 1) (by omega)
  rw [show off + 1 + i = off + (i + 1) by omega, this]
  simp
theorem QAt.none {base : Nat} {w : World} {b off cap off' : Nat} {xs : List Int} (h : QAt base w b off 1 1 xs) (ho : off' ≤ off + 1) : QAt base w b off' 0 0 [] := by
  obtain ⟨cur, h1, h2, h3⟩ := h.blk
  exact ⟨h.lo, ⟨cur, h1, by omega, fun i hi => by omega⟩, Nat.le_refl _, rfl⟩
section
variable {P : Program} {ops : Array Oper} {rest : List Oper} {o : Oper} {a : Act} {Q : Exit → Act → World → Prop}
theorem wp_qpush {base : Nat} {wb : World} (hgd : o.guard = none) (s x : Operand) (t : TypeId) (ho : o.op = .call { callee := .builtin .append, args := #[s, x], argTypes := #[t, t] })
    (ht : P.underlying t = some (.slice 3)) (hinfo : (P.info? 3).map (fun i => (i.zero, i.size, i.bytes)) = some (some (.int .i64 0), 1, 8))
    (b off n cap : Nat) (xs : List Int) (y : Int) (hs : a.eval s = .slice (some ⟨b, off, none⟩) n cap) (hx : a.eval x = .slice (some ⟨wb.heap.size, 0, none⟩) 1 1) (hq : QAt base wb b off n cap xs) (hbase : base ≤ wb.heap.size) (hl : n ≤ 1000000)
    (h : ∀ b' off' cap' w', QAt base w' b' off' (n + 1) cap' (xs ++ [y]) → Chg (fun k => k = b) wb w' → (b' = b ∨ wb.heap.size ≤ b') → wpList P ops Q rest (a.put o.dst (.slice (some ⟨b', off', none⟩) (n + 1) cap')) w') :
    wpList P ops Q (o :: rest) a (wb.alloc (.cells #[.int .i64 y] 3)) := by
  obtain ⟨i0, hi, hzz⟩ := Option.map_eq_some_iff.1 hinfo
  simp only [Prod.mk.injEq] at hzz
  obtain ⟨hz0, hz1, hz2⟩ := hzz
  have hq' := hq.below (below_alloc (Below.refl _ wb) (.cells #[.int .i64 y] 3))
  obtain ⟨cur, hb, hsz, hcur⟩ := hq'.blk
  have hlt := hq.lt
  have hxl := hq.len
  have hle := hq.le
  refine wpList_append_arg _ hgd s x t ho 3 i0 (.int .i64 0) 1 8 ht hi hz0 hz1 hz2 rfl (by decide) b off n cap (ints xs) hs (by rw [ints_len]; omega) (fun j u hj => ?_) ⟨wb.heap.size, 0, none⟩ 1 1 [.int .i64 y] hx rfl
    (World.news_of_block (cs := #[.int .i64 y]) (t := 3) (fr := (0, 0)) (heap_alloc_new wb _)) (by simp [Value.oneCell']) (fun hroom j hj => ?_) (by unfold maxLen; omega) (by omega) (fun hroom => ?_) (fun hgrow v' w' hown hg => ?_)
  · have hj' : j < n := by
      have := (List.getElem?_eq_some_iff.1 hj).1
      rw [ints_len] at this; omega
    have e1 := hq'.cell j hj'
    rw [e1]
    have e2 := encs_get (enc := Value.int .i64) (d := (0 : Int)) xs j (by omega)
    exact e2.symm.trans hj
  · have hj0 : j = 0 := by simpa using hj
    subst hj0
    refine ⟨?_, blk_frozen hb _⟩
    rw [blk_cell hb, Array.getElem?_eq_getElem (by omega)]
    rfl
  · have e0 : off + n * 1 = off + n := by omega
    rw [e0]
    show wpList P ops Q rest (a.put o.dst (.slice (some ⟨b, off, none⟩) (n + 1) cap)) (World.setCell _ ⟨b, off + n, none⟩ (.int .i64 y))
    refine h b off cap _ ⟨hq.lo, ⟨_, blk_set hb (off + n) _, by simpa using hsz, fun i hi => ?_⟩, hroom, by simp [hxl]⟩ ?_ (.inl rfl)
    · by_cases hin : i = n
      · subst hin
        rw [Array.getElem?_setIfInBounds_self_of_lt (by omega)]
        rw [List.getD_eq_getElem?_getD, List.getElem?_append_right (by omega)]
        simp [hxl]
      · rw [Array.getElem?_setIfInBounds_ne (by omega), hcur i (by omega)]
        rw [List.getD_eq_getElem?_getD, List.getD_eq_getElem?_getD, List.getElem?_append_left (by omega)]
    · exact ((Chg.refl (fun k => k = b) wb).alloc _).set (show (fun k => k = b) b from rfl) _ _
  · obtain ⟨b', cap', hv, hlo, hb'⟩ := hown.form (by omega)
    subst hv
    have hchg : Chg (fun k => k = b) wb w' := ((Chg.refl _ wb).alloc _).grown hg (fun k e => by cases e)
    have hbs : wb.heap.size ≤ b' := by have := hlo; simp at this; omega
    refine h b' 0 cap' w' ?_ hchg (.inr hbs)
    obtain ⟨h1, h2⟩ := hown
    rcases h2 with ⟨h2, h2'⟩ | ⟨g, cap2, cur2, hv, hg2, hh, h3, h4, h5, h6⟩
    · omega
    · injection hv with h7 h8 h9
      injection h7 with h7
      injection h7 with h7
      subst h7 h9
      refine ⟨by omega, ⟨cur2, hh, by omega, fun i hi => ?_⟩, h3, by simp [hxl]⟩
      have e3 : (ints xs ++ [Value.int .i64 y]) = ints (xs ++ [y]) := (encs_append xs [y]).symm
      rw [e3] at h6
      have e4 : cur2.toList[i]? = (ints (xs ++ [y]))[i]? := by
        rw [← h6, List.getElem?_take_of_lt (by omega)]
      rw [Nat.zero_add, ← Array.getElem?_toList, e4]
      exact encs_get (enc := Value.int .i64) (d := (0 : Int)) _ i (by simp; omega)
end
end Go.Proofs.YtbpoapfkeinjnaaGreatDoor.Ld
