/- The engine of the yard and what it leans on, part 34. -/
import Derived.Test.YtbpoapfkeinjnaaGreatDoorK33
namespace Go.Proofs.YtbpoapfkeinjnaaGreatDoor.Ld
open Go.RowKit Go.Proofs.YtbpoapfkeinjnaaGreatDoorW.PrintWords Go.Proofs.YtbpoapfkeinjnaaGreatDoorW.PrintLast Go.Proofs.YtbpoapfkeinjnaaGreatDoorW.PrintMore
set_option linter.unusedVariables false
set_option linter.unusedSimpArgs false
def setL (e : Eng) (t : Nat) (l : LifeS) : Eng := { e with life := upf e.life t l }
def setW (e : Eng) (t : Nat) (x : Int) : Eng := { e with waits := upf e.waits t x }
def edgeE (e : Eng) (t d : Nat) (nn : Int) : Eng := { e with gr := { addG e.gr t d with n := nn } }
def waitE (e : Eng) (t : Nat) : Eng := setL e t (stepSt (e.life t) 2 3)
def Settled (e e' : Eng) : Prop := ∃ e1, Fols e e1 ∧ Over e1 e'
def NeedsR (e : Eng) (t d : Nat) (e' : Eng) : Prop :=
  ∃ nn xs, PathR e.gr.N t xs ∧
    ((xs ≠ [] ∧ Settles (turnAll (edgeE e t d nn) xs) xs e') ∨
     ((e.life d).state = 5 ∧ e' = setL (edgeE e t d nn) t (stepSt (e.life t) 2 1)) ∨
     ((e.life d).state = 6 ∧ Settled (setL (waitE (edgeE e t d nn) t) t (fallSt ((waitE (edgeE e t d nn) t).life t))) e') ∨
     ((e.life d).state = 7 ∧ Settled (setL (edgeE e t d nn) t (turnSt (e.life t))) e') ∨
     ((e.life d).state < 5 ∧
      ((((setW (waitE (edgeE e t d nn) t) t (d : Int)).life d).state ≠ 0 ∧ e' = setW (waitE (edgeE e t d nn) t) t (d : Int)) ∨
      (((setW (waitE (edgeE e t d nn) t) t (d : Int)).life d).state = 0 ∧
        e' = setL (setW (waitE (edgeE e t d nn) t) t (d : Int)) d (stepSt ((setW (waitE (edgeE e t d nn) t) t (d : Int)).life d) 0 1)))))
theorem edgeE_inv {e : Eng} (h : EngInv e) {t d : Nat} (ht : t < e.N) (hd : d < e.N) (hno : (e.gr.T t).testBit d = false) (nn : Int) : EngInv (edgeE e t d nn) :=
  { h with gN := h.gN, gr := { addG_inv h.gr (by rw [h.gN]; exact ht) (by rw [h.gN]; exact hd) hno with } }
theorem Settled.inv {e e' : Eng} (h : Settled e e') (hi : EngInv e) (hs : Sync e) : EngInv e' ∧ Sync e' ∧ e'.N = e.N := by
  obtain ⟨e1, hf, ho⟩ := h
  obtain ⟨j1, j2, j3, _⟩ := hf.inv hi hs
  exact ⟨(ho.inv j1 j2).1, (ho.inv j1 j2).2, by rw [ho.same.1, j3]⟩
theorem EngInv.setL {e : Eng} (h : EngInv e) {t : Nat} {l : LifeS} (hl : LifeOk e.begun l) : EngInv (setL e t l) := h.setLife t l hl
theorem waitE_inv {e : Eng} (h : EngInv e) {t : Nat} (ht : t < e.N) : EngInv (waitE e t) := h.setLife t _ ((h.life t ht).step 2 3 (by omega) (by omega))
theorem EngInv.memB {e : Eng} (h : EngInv e) {i : Nat} (hi : i < e.N) : e.mem i ≤ e.c.budget := by
  obtain ⟨M, h0, h1, h2, h3⟩ := h.room
  have h5 := h1 i hi
  have h6 : ((e.led.many : Int) + 1) * M = (e.led.many : Int) * M + M := by rw [Int.add_mul]; simp
  have h7 : 0 ≤ (e.led.many : Int) * M := Int.mul_nonneg (by omega) h0
  omega
theorem Glb.step {bm : Nat} {S1 : Nat → Prop} {w1 w2 : World} (h : Glb bm S1 w1) (t : Chg S1 w1 w2) : Glb bm (fun j => up S1 w1 w2 j ∧ j < w2.heap.size) w2 := (h.to t).mono fun k hk => hk.1
set_option maxHeartbeats 8000000 in
set_option maxRecDepth 100000 in
theorem needs_calls (S : Nat → Prop) (bm g : Nat) (K : EK) (e : Eng) (t d : Nat) (w : World) (H : EngAt S w g K e) (hi : EngInv e) (hs : Sync e) (hg : Glb bm S w) (ht : t < e.N) (hd : d < e.N) (h2 : (e.life t).state = 2) (hno : (e.gr.T t).testBit d = false) :
    Calls Tryz.prog 65 #[.pointer (some ⟨g, 0, none⟩), .int .i64 (t : Int), .int .i64 (d : Int)] w fun en w' => en = .returned (.tuple #[]) ∧ ∃ e', NeedsR e t d e' ∧ To S w g K e' w' := by
  have HI := Aside0.mk hi
  have HS := Aside0.mk hs
  have HG := Aside0.mk hg
  have H2 := Aside0.mk h2
  have HNO := Aside0.mk hno
  have hN12 := hi.N.2
  have HGN := Aside0.mk hi.gN
  have HL0 := Aside0.mk (Loc.start H)
  obtain ⟨c13, S2, hgr, hlt2, hback⟩ := H.gr
  have HGR := Aside0.mk hgr
  obtain ⟨_, S1, hgr1, hlt1, hback1⟩ := HL0.out.at_.gr
  have HT := Aside0.mk (show t < e.gr.N ∧ d < e.gr.N ∧ e.gr.N ≤ 12 from ⟨by rw [hi.gN]; exact ht, by rw [hi.gN]; exact hd, by rw [hi.gN]; exact hN12⟩)
  clear H hi hs hg h2 hno hgr hlt2 hback hgr1 hlt1 hback1
  go_enter Tryz.func65, Tryz.ntmps65
  go_upto_region 1 with (go_at_call 113; go_loud (refine (closes_calls S2 K.gg e.gr t d _ HGR.out HI.out.gr HT.out.1 HT.out.2.1 HT.out.2.2).mono ?_); rintro en w2 ⟨v, xs, rfl, hA⟩; have HA := Aside0.mk hA.out; have HL2 := Aside0.mk (HL0.out.below hA.out.1.2); clear hA)
  obtain ⟨A, c, rfl, hri, hlc, hc63, hA0, _⟩ := rowI HA.out.1.1
  have HOW := Aside0.mk (show OwnL (fun k => S k ∧ k < w.heap.size) w2 A xs from ⟨hri, fun a ha h0 => by
    have h1 := (hA0 a ha).2
    have h3 : (Value.slice A xs.length c).ownBlock = some a.block := by rw [ha]; rfl
    exact ⟨fun h => by have : w.heap.size ≤ a.block := h1; omega, own_lt HA.out.1.1.own _ h3⟩⟩)
  obtain ⟨c13', S3, hgr3, hlt3, hback3⟩ := HL2.out.at_.gr
  have HGR3 := Aside0.mk hgr3
  have HBK := Aside0.mk hback3
  have HPR := Aside0.mk HA.out.2
  clear c13 hri hA0 hgr3 hlt3 hback3
  go_upto_region 2 with (go_at_call 114; go_loud (refine (GAdd_calls S3 K.gg e.gr t d _ HGR3.out HI.out.gr HT.out.1 HT.out.2.1 HNO.out (fun b j hj => by have := HI.out.gr.short b j hj; have := HT.out.2.2; omega)).mono ?_); rintro en w3 ⟨rfl, ⟨nn, hG⟩, hC⟩; have HTo := Aside0.mk (HBK.out _ _ hG hC); clear hG hC)
  have HL3 := Aside0.mk (show Loc S w g K (edgeE e t d nn) _ w3 from HL2.out.step HTo.out)
  have HO3 := Aside0.mk (HOW.out.step HL2.out HTo.out)
  obtain ⟨E, hE⟩ : ∃ E, edgeE e t d nn = E := ⟨_, rfl⟩
  rw [hE] at HL3
  obtain ⟨S4, hS4⟩ : ∃ S4 : Nat → Prop, (fun j => up (fun k => S k ∧ k < w.heap.size) w2 w3 j ∧ j < w3.heap.size) = S4 := ⟨_, rfl⟩
  rw [hS4] at HL3 HO3
  have hEN : E.N = e.N := by rw [← hE]; rfl
  have HIE := Aside0.mk (show EngInv E ∧ Sync E from hE ▸ ⟨edgeE_inv HI.out ht hd HNO.out nn, HS.out⟩)
  have HG4 := Aside0.mk (show Glb bm S4 w3 from (HG.out.to HL3.out.chg).mono fun k hk => by
    rcases HL3.out.sub k hk with h | h
    · exact .inl h
    · exact .inr ⟨h, HL3.out.lt k hk⟩)
  have HLF := Aside0.mk (show E.life = e.life ∧ E.waits = e.waits ∧ E.mem = e.mem ∧ E.c = e.c from by rw [← hE]; exact ⟨rfl, rfl, rfl, rfl⟩)
  have HE := Aside0.mk hE
  have htE : t < E.N := by omega
  have hdE : d < E.N := by omega
  have c11 := HL3.out.at_.ftasks
  obtain ⟨ct, _, cl, cw, _, f3⟩ := HL3.out.at_.ftask t htE
  obtain ⟨cd, _, cld, _, _, _⟩ := HL3.out.at_.ftask d hdE
  have q1 : (0 ≤ (t : Int)) = True := eq_true (by omega)
  have q2 : ((t : Int) < (E.N : Int)) = True := eq_true (by omega)
  have q3 : (0 ≤ (d : Int)) = True := eq_true (by omega)
  have q4 : ((d : Int) < (E.N : Int)) = True := eq_true (by omega)
  clear HOW HGR HGR3 HBK HTo HL2 HL0 hE c13' hS4
  refine Qt.wp_region_quiet_tail 15 (by kernel_rfl) (by kernel_rfl) ?_
  simp only [List.take_succ_cons, List.take_zero, List.drop_succ_cons, List.drop_zero]
  repeat (go_big_quiet_step (fail))
  refine wpQuiet_nil ?_
  intro w4 hw4
  have HB4 := Aside0.mk (show Below w3.heap.size w3 w4 from by obtain ⟨m, rfl⟩ := hw4; exact pw_below_drewN (Below.refl _ _) m)
  have HL4 := Aside0.mk (HL3.out.below HB4.out)
  have HO4 := Aside0.mk (HO3.out.below HB4.out)
  have HGL := Aside0.mk (HG4.out.below HB4.out)
  clear hw4 c11 ct cl cw f3 cd cld HL3 HO3 HG4
  obtain ⟨n, hn⟩ : ∃ n, xs.length = n := ⟨_, rfl⟩
  rw [hn]
  have HN := Aside0.mk hn
  have hn12 : n ≤ 12 := by have := HPR.out.len; have := HT.out.2.2; omega
  have hlcn : n ≤ c := by omega
  clear hn hlc
  by_cases h0 : 0 < n
  · have p0 : (0 < (n : Int)) = True := eq_true (by omega)
    go_wp2_with (go_at_call 115; go_loud (refine (round_calls S4 bm g K E A n c xs _ HL4.out.at_ HIE.out.1 HIE.out.2 HGL.out HN.out HO4.out (fun z hz => by obtain ⟨y, h1, h2⟩ := HPR.out.ids z hz; exact ⟨y, h1, by have := HGN.out; omega⟩) hn12).mono ?_); rintro en w5 ⟨rfl, e', hse, hto⟩; have HSE := Aside0.mk hse; have HTO := Aside0.mk (HL4.out.step hto); clear hse hto)
    refine bodyPost_ret (results_none rfl _ _ _) rfl ?_
    exact ⟨rfl, e', ⟨nn, xs, HPR.out, .inl ⟨fun h => (by rw [← HN.out, h] at h0; exact absurd h0 (by simp)), by rw [HE.out]; exact HSE.out⟩⟩, HTO.out.done⟩
  · have p0 : decide (0 < n) = false := decide_eq_false h0
    obtain ⟨_, _, cld, _, _, _⟩ := HL4.out.at_.ftask d hdE
    have HLD := Aside0.mk (HL4.out.at_.flife d hdE).1
    obtain ⟨sd, hsd⟩ : ∃ sd, (E.life d).state = sd := ⟨_, rfl⟩
    have HSD := Aside0.mk hsd
    have HSDB := Aside0.mk (show 0 ≤ sd ∧ sd ≤ 7 from hsd ▸ (HIE.out.1.life d hdE).st)
    clear hsd h0
    go_upto_region 6 with (go_at_call 30; go_loud (refine (State_calls (K.lp d) (E.life d) _ HLD.out).mono ?_); rintro en w5 ⟨rfl, h5⟩; rw [HSD.out]; have HL5 := Aside0.mk (HL4.out.below h5.below); have HG5 := Aside0.mk (HGL.out.below h5.below); clear h5)
    clear cld
    obtain ⟨_, _, cl, cw, _, f3⟩ := HL5.out.at_.ftask t htE
    have HLT := Aside0.mk (HL5.out.at_.flife t htE)
    have HST := Aside0.mk (HIE.out.1.life t htE).st
    by_cases h5 : sd = 5
    · have b5 : (sd == 5) = true := beq_iff_eq.2 h5
      go_wp2_with (go_at_call 116; go_loud (refine (Again_calls (K.lp t) (E.life t) HST.out _ HLT.out.1).mono ?_); rintro en w6 ⟨rfl, h2, k2⟩; have HL6 := Aside0.mk (HL5.out.step (HLT.out.2 _ _ h2 k2)); clear h2 k2)
      refine bodyPost_ret (results_none rfl _ _ _) rfl ?_
      exact ⟨rfl, _, ⟨nn, xs, HPR.out, .inr (.inl ⟨by rw [← HLF.out.1, HSD.out]; exact h5, by rw [HE.out, ← HLF.out.1]; rfl⟩)⟩, HL6.out.done⟩
    · have b5 : (sd == 5) = false := beq_eq_false_iff_ne.2 h5
      by_cases h6 : sd = 6
      · have b6 : (sd == 6) = true := beq_iff_eq.2 h6
        go_upto_region 10 with (go_at_call 117; go_loud (refine (Wait_calls (K.lp t) (E.life t) HST.out _ HLT.out.1).mono ?_); rintro en w6 ⟨rfl, h2, k2⟩; have HL6 := Aside0.mk (show Loc S w g K (waitE E t) _ w6 from HL5.out.step (HLT.out.2 _ _ h2 k2)); have HG6 := Aside0.mk (HG5.out.step (HLT.out.2 _ _ h2 k2).2); clear h2 k2)
        have HIW := Aside0.mk (waitE_inv HIE.out.1 htE)
        obtain ⟨W, hW⟩ : ∃ W, waitE E t = W := ⟨_, rfl⟩
        rw [hW] at HL6 HIW
        have htW : t < W.N := by rw [← hW]; exact htE
        have HW := Aside0.mk hW
        have HSW := Aside0.mk (show Sync W from hW ▸ HIE.out.2)
        clear cl cw f3 hW
        obtain ⟨_, _, cl, cw, _, f3⟩ := HL6.out.at_.ftask t htW
        have HLW := Aside0.mk (HL6.out.at_.flife t htW)
        have HSTW := Aside0.mk (HIW.out.life t htW).st
        go_wp2_with (first
          | (go_at_call 118; go_loud (refine (Fall_calls (K.lp t) (W.life t) HSTW.out _ HLW.out.1).mono ?_); rintro en w7 ⟨⟨er, rfl⟩, h2, k2⟩; have HL7 := Aside0.mk (show Loc S w g K (setL W t (fallSt (W.life t))) _ w7 from HL6.out.step (HLW.out.2 _ _ h2 k2)); have HG7 := Aside0.mk (HG6.out.step (HLW.out.2 _ _ h2 k2).2); clear h2 k2)
          | (go_at_call 63; go_loud (refine (settle_calls _ bm g K _ t _ HL7.out.at_ (HIW.out.setL (HIW.out.life t htW).fall) HSW.out HG7.out htW).mono ?_); rintro en w8 ⟨rfl, e3, e4, hf, hov, hto⟩; have HF := Aside0.mk (And.intro hf hov); have HL8 := Aside0.mk (HL7.out.step hto); clear hf hov hto))
        refine bodyPost_ret (results_none rfl _ _ _) rfl ?_
        exact ⟨rfl, e4, ⟨nn, xs, HPR.out, .inr (.inr (.inl ⟨by rw [← HLF.out.1, HSD.out]; exact h6, by rw [HE.out, HW.out]; exact ⟨e3, HF.out⟩⟩))⟩, HL8.out.done⟩
      · have b6 : (sd == 6) = false := beq_eq_false_iff_ne.2 h6
        by_cases h7 : sd = 7
        · have b7 : (sd == 7) = true := beq_iff_eq.2 h7
          go_wp2_with (first
            | (go_at_call 119; go_loud (refine (Turn_calls (K.lp t) (E.life t) HST.out _ HLT.out.1).mono ?_); rintro en w7 ⟨⟨er, rfl⟩, h2, k2⟩; have HL7 := Aside0.mk (show Loc S w g K (setL E t (turnSt (E.life t))) _ w7 from HL5.out.step (HLT.out.2 _ _ h2 k2)); have HG7 := Aside0.mk (HG5.out.step (HLT.out.2 _ _ h2 k2).2); clear h2 k2)
            | (go_at_call 63; go_loud (refine (settle_calls _ bm g K _ t _ HL7.out.at_ (HIE.out.1.setL (HIE.out.1.life t htE).turn) HIE.out.2 HG7.out htE).mono ?_); rintro en w8 ⟨rfl, e3, e4, hf, hov, hto⟩; have HF := Aside0.mk (And.intro hf hov); have HL8 := Aside0.mk (HL7.out.step hto); clear hf hov hto))
          refine bodyPost_ret (results_none rfl _ _ _) rfl ?_
          exact ⟨rfl, e4, ⟨nn, xs, HPR.out, .inr (.inr (.inr (.inl ⟨by rw [← HLF.out.1, HSD.out]; exact h7, by rw [HE.out, ← HLF.out.1]; exact ⟨e3, HF.out⟩⟩)))⟩, HL8.out.done⟩
        · have b7 : (sd == 7) = false := beq_eq_false_iff_ne.2 h7
          go_upto_region 16 with (go_at_call 117; go_loud (refine (Wait_calls (K.lp t) (E.life t) HST.out _ HLT.out.1).mono ?_); rintro en w6 ⟨rfl, h2, k2⟩; have HL6 := Aside0.mk (show Loc S w g K (waitE E t) _ w6 from HL5.out.step (HLT.out.2 _ _ h2 k2)); have HG6 := Aside0.mk (HG5.out.step (HLT.out.2 _ _ h2 k2).2); clear h2 k2)
          have HIW := Aside0.mk (waitE_inv HIE.out.1 htE)
          obtain ⟨W, hW⟩ : ∃ W, waitE E t = W := ⟨_, rfl⟩
          rw [hW] at HL6 HIW
          have hWN : W.N = E.N := by rw [← hW]; rfl
          have htW : t < W.N := by omega
          have hdW : d < W.N := by omega
          have HW := Aside0.mk hW
          have HSW := Aside0.mk (show Sync W from hW ▸ HIE.out.2)
          clear cl cw f3 hW
          obtain ⟨_, _, cl, cw, _, f3⟩ := HL6.out.at_.ftask t htW
          have f33 := f3 3
          have HTW := Aside0.mk (HL6.out.at_.stask t htW (d : Int)).1
          go_upto_region 17 with (fail)
          obtain ⟨w7, hw7⟩ : ∃ w7, w7 = w6.setCell ⟨K.tp t, 3, none⟩ (.int .i64 (d : Int)) := ⟨_, rfl⟩
          rw [← hw7] at HTW ⊢
          have HL7 := Aside0.mk (show Loc S w g K (setW W t (d : Int)) _ w7 from HL6.out.step HTW.out)
          clear hw7 cl cw f33 f3
          obtain ⟨V, hV⟩ : ∃ V, setW W t (d : Int) = V := ⟨_, rfl⟩
          rw [hV] at HL7
          have hdV : d < V.N := by rw [← hV]; exact hdW
          have HIV := Aside0.mk (show EngInv V ∧ V.c = E.c ∧ V.mem = E.mem from hV ▸ ⟨HIW.out.setWaits _, HW.out ▸ ⟨rfl, rfl⟩⟩)
          have HV := Aside0.mk hV
          clear hV
          obtain ⟨_, cm, cld, _, _, _⟩ := HL7.out.at_.ftask d hdV
          obtain ⟨cb, _⟩ := HL7.out.at_.fc
          have HLD7 := Aside0.mk (HL7.out.at_.flife d hdV)
          have HSTD := Aside0.mk (HIV.out.1.life d hdV).st
          obtain ⟨s7, hs7⟩ : ∃ s7, (V.life d).state = s7 := ⟨_, rfl⟩
          have HS7 := Aside0.mk hs7
          obtain ⟨md, hmd⟩ : ∃ md, V.mem d = md := ⟨_, rfl⟩
          obtain ⟨bu, hbu⟩ : ∃ bu, V.c.budget = bu := ⟨_, rfl⟩
          have hmb : md ≤ bu := by rw [← hmd, ← hbu]; exact HIV.out.1.memB hdV
          rw [hmd] at cm
          rw [hbu] at cb
          clear hs7 hmd hbu
          have HREL := Aside0.mk (show setW (waitE (edgeE e t d nn) t) t (d : Int) = V from by rw [HE.out, HW.out, HV.out])
          have HSTE := Aside0.mk (show (e.life d).state < 5 from by rw [← HLF.out.1, HSD.out]; have := HSDB.out; omega)
          by_cases h70 : s7 = 0
          · have b0 : (s7 != 0) = false := by rw [h70]; rfl
            have pm : (bu < md) = False := eq_false (by omega)
            go_upto_region 18 with (go_at_call 30; go_loud (refine (State_calls (K.lp d) (V.life d) _ HLD7.out.1).mono ?_); rintro en w8 ⟨rfl, h5⟩; rw [HS7.out]; have HL8 := Aside0.mk (HL7.out.below h5.below); have cm8 := pw_cell_below h5.below cm; have cb8 := pw_cell_below h5.below cb; clear h5)
            clear cm cb cld
            go_quiet (fail)
            have HL9 := Aside0.mk (HL8.out.below (pw_below_drewN (Below.refl _ w8) nq))
            obtain ⟨w9, hw9⟩ : ∃ w9, w9 = w8.drewN nq := ⟨_, rfl⟩
            rw [← hw9] at HL9 ⊢
            clear hw9 cm8 cb8
            obtain ⟨_, _, cld, _, _, _⟩ := HL9.out.at_.ftask d hdV
            have HLD9 := Aside0.mk (HL9.out.at_.flife d hdV)
            go_wp2_with (go_at_call 75; go_loud (refine (Want_calls (K.lp d) (V.life d) HSTD.out _ HLD9.out.1).mono ?_); rintro en w10 ⟨rfl, h2, k2⟩; have HL10 := Aside0.mk (HL9.out.step (HLD9.out.2 _ _ h2 k2)); clear h2 k2)
            go_end0
            exact ⟨rfl, _, ⟨nn, xs, HPR.out, .inr (.inr (.inr (.inr ⟨HSTE.out, .inr ⟨by rw [HREL.out, HS7.out]; exact h70, by rw [HREL.out]; rfl⟩⟩)))⟩, HL10.out.done⟩
          · have b0 : (s7 != 0) = true := by rw [bne_iff_ne]; exact h70
            go_wp2_with (go_at_call 30; go_loud (refine (State_calls (K.lp d) (V.life d) _ HLD7.out.1).mono ?_); rintro en w8 ⟨rfl, h5⟩; rw [HS7.out]; have HL8 := Aside0.mk (HL7.out.below h5.below); clear h5)
            refine bodyPost_ret (results_none rfl _ _ _) rfl ?_
            exact ⟨rfl, V, ⟨nn, xs, HPR.out, .inr (.inr (.inr (.inr ⟨HSTE.out, .inl ⟨by rw [HREL.out, HS7.out]; exact h70, HREL.out.symm⟩⟩)))⟩, HL8.out.done⟩
end Go.Proofs.YtbpoapfkeinjnaaGreatDoor.Ld
namespace Go.Proofs.YtbpoapfkeinjnaaGreatDoor.Ld
open Go.RowKit Go.Proofs.YtbpoapfkeinjnaaGreatDoorW.PrintWords Go.Proofs.YtbpoapfkeinjnaaGreatDoorW.PrintLast Go.Proofs.YtbpoapfkeinjnaaGreatDoorW.PrintMore
set_option linter.unusedVariables false
set_option linter.unusedSimpArgs false
set_option linter.unnecessarySimpa false
attribute [local go_sem] max2_int min2_int max_two min_two
theorem RnV.same {base : Nat} {w w' : World} {A : Option Addr} {n N : Nat} (h : RnV base w A n N) (hb : ∀ b, base ≤ b → b < w.heap.size → w'.heap[b]? = w.heap[b]?) (hs : w.heap.size ≤ w'.heap.size) : RnV base w' A n N := fun hn => by
  obtain ⟨b, h1, h2⟩ := h hn
  have hbb := hb b h2.lo h2.lt
  exact ⟨b, h1, fun i hi => (by obtain ⟨r, hr⟩ := h2.at_ i hi; exact ⟨r, hr.same hbb⟩), fun k => (World.frozen?_of_block (a := ⟨b, k, none⟩) hbb).trans (h2.fz k), h2.lo, Nat.lt_of_lt_of_le h2.lt hs⟩
structure ChI (w : World) (b4 base : Nat) (p M k : Int) (A6 : Option Addr) (n6 N i : Nat) (v17 : Value) (wr : World) : Prop where
  c4 : wr.heap[b4]? = some (.cells #[.int .i64 p, .int .i64 M, .int .i64 k] 195 (0, 0))
  rn : RnV base wr A6 n6 N
  by_ : Below w.heap.size w wr
  st : ∃ F sl : Int, wr.heap[b4 + 1]? = some (.cells #[.int .i64 F, .int .i64 sl] 197 (0, 0)) ∧ ((i = 0 ∧ sl = 0 ∧ 0 ≤ F ∧ F ≤ 1048576 ∧ v17 = .slice none 0 0 ∧ M ≤ F) ∨ (i = 1 ∧ sl = 1 ∧ M ≤ F ∧ ∃ y : Nat, y < N ∧ NewRow w v17 [(y : Int)] wr))
theorem ChI.below {w wr w2 : World} {b4 base : Nat} {p M k : Int} {A6 : Option Addr} {n6 N i : Nat} {v17 : Value} (h : ChI w b4 base p M k A6 n6 N i v17 wr) (hb : Below wr.heap.size wr w2) : ChI w b4 base p M k A6 n6 N i v17 w2 := by
  obtain ⟨F, sl, h1, h2⟩ := h.st
  refine ⟨blk_below h.c4 hb, h.rn.below hb, below_step h.by_ hb, F, sl, blk_below h1 hb, ?_⟩
  rcases h2 with h2 | ⟨h3, h4, h5, y, h6, h7⟩
  · exact .inl h2
  · exact .inr ⟨h3, h4, h5, y, h6, ⟨h7.1.keep (Keep.of_below hb), below_step h7.2 hb⟩⟩
def ChooseP (w : World) (N : Nat) (e : Ending) (w' : World) : Prop :=
  (e = .returned (.tuple #[.slice none 0 0, .bool false]) ∧ Below w.heap.size w w') ∨ (∃ (v : Value) (y : Nat), e = .returned (.tuple #[v, .bool true]) ∧ y < N ∧ NewRow w v [(y : Int)] w')
theorem row_cap {T : Nat → Prop} {w : World} {A : Option Addr} {n c : Nat} {t : TypeId} {sz : Nat} {xs : List Value} (h : RowAt T w t sz (.slice A n c) n xs) : c ≤ 9223372036854775807 := by
  rcases h.own.2 with ⟨h1, _⟩ | ⟨g, cap, cur, h1, _, _, _, h2, _⟩
  · injection h1 with _ _ h3; omega
  · injection h1 with _ _ h3; subst h3; exact h2
set_option maxHeartbeats 8000000 in
set_option maxRecDepth 100000 in
theorem choose_calls (A : Option Addr) (n c N : Nat) (p m f k : Int) (rs : List Rn) (w0 w : World) (h : NewR w0 200 5 (.slice A n c) n (flat encRn rs) w) (hn : rs.length = n) (hn2 : n ≤ 12) (hok : RnOk N rs) (hmf : memI m ≤ memI f) :
    Calls Tryz.prog 97 #[.slice A n c, .int .i64 p, .int .i64 m, .int .i64 f, .int .i64 0, .int .i64 k] w (ChooseP w N) := by
  have H := Aside0.mk h
  have HOK := Aside0.mk hok
  have HN := Aside0.mk hn
  obtain ⟨M, hM⟩ : ∃ M, memI m = M := ⟨_, rfl⟩
  obtain ⟨F, hF⟩ : ∃ F, memI f = F := ⟨_, rfl⟩
  have HM := Aside0.mk hM
  have HF := Aside0.mk hF
  have hMb : 0 ≤ M ∧ M ≤ 1048576 := hM ▸ memI_bd m
  have hFb : 0 ≤ F ∧ F ≤ 1048576 := hF ▸ memI_bd f
  rw [hM, hF] at hmf
  clear h hok hn hM hF
  go_enter Tryz.func97, Tryz.ntmps97
  go_upto_region 2 with (first
    | (go_at_call 138; (with_reducible refine (memory_calls m _).mono ?_); rintro e w2 ⟨rfl, hd⟩; rw [HM.out]; have HD2 := Aside0.mk hd.below; clear hd)
    | (go_at_call 138; (with_reducible refine (memory_calls f _).mono ?_); rintro e w3 ⟨rfl, hd⟩; rw [HF.out]; have HD3 := Aside0.mk (below_step HD2.out hd.below); clear hd))
  obtain ⟨wA, hwA⟩ : ∃ wA, wA = (w3.alloc (.cells #[.int .i64 p, .int .i64 M, .int .i64 k] 195)).alloc (.cells #[.int .i64 F, .int .i64 0] 197) := ⟨_, rfl⟩
  have hs3 : (w3.alloc (.cells #[.int .i64 p, .int .i64 M, .int .i64 k] 195)).heap.size = w3.heap.size + 1 := size_alloc _ _
  obtain ⟨b4, hb4⟩ : ∃ b4, w3.heap.size = b4 := ⟨_, rfl⟩
  have HA4 := Aside0.mk (show wA.heap[b4]? = some (.cells #[.int .i64 p, .int .i64 M, .int .i64 k] 195 (0, 0)) from by rw [hwA, ← hb4]; exact blk_below (heap_alloc_new w3 _) (below_alloc (Below.refl _ _) _))
  have HA5 := Aside0.mk (show wA.heap[b4 + 1]? = some (.cells #[.int .i64 F, .int .i64 0] 197 (0, 0)) from by rw [hwA, ← hb4, ← hs3]; exact heap_alloc_new _ _)
  have HAS := Aside0.mk (show wA.heap.size = b4 + 2 from by rw [hwA, size_alloc, hs3, hb4])
  have HAB := Aside0.mk (show Below w.heap.size w wA from by rw [hwA]; exact below_step HD3.out (below_alloc (below_alloc (Below.refl _ _) _) _))
  have HW4 := Aside0.mk (show w.heap.size ≤ b4 from hb4 ▸ HD3.out.size)
  rw [← hwA, hb4]
  clear hwA hs3 hb4
  have HROW := Aside0.mk (H.out.1.keep (Keep.of_below HAB.out))
  have HONE := Aside0.mk (show ∀ u, u ∈ flat encRn rs → u.oneCell' = true from fun u hu => by
    obtain ⟨l, hl, hul⟩ := List.mem_flatten.1 hu
    obtain ⟨r, _, rfl⟩ := List.mem_map.1 hl
    simp [encRn] at hul
    rcases hul with rfl | rfl | rfl | rfl | rfl <;> rfl)
  have d0 : wA.cell? ⟨b4, 0, none⟩ = some (.int .i64 p) := (blk_cell HA4.out 0).trans rfl
  have d1 : wA.cell? ⟨b4, 1, none⟩ = some (.int .i64 M) := (blk_cell HA4.out 1).trans rfl
  have d2 : wA.cell? ⟨b4, 2, none⟩ = some (.int .i64 k) := (blk_cell HA4.out 2).trans rfl
  have HX := Aside0.mk (And.intro d0 (And.intro d1 d2))
  go_cut [16] (fun v16 wc => ∃ (A6 : Option Addr) (n6 c6 : Nat), v16 = .slice A6 n6 c6 ∧ Aside0 (n6 ≤ n ∧ RnV wA.heap.size wc A6 n6 N ∧ Below wA.heap.size wA wc))
  case first =>
    go_region_held3 (fun w' => w'.cell? ⟨b4, 0, none⟩ = some (.int .i64 p) ∧ w'.cell? ⟨b4, 1, none⟩ = some (.int .i64 M) ∧ w'.cell? ⟨b4, 2, none⟩ = some (.int .i64 k)) (first | exact HX3.out | exact HX2.out | go_keep)
      (first
        | (go_at_call 140; go_loud (refine (Clone140_calls _ A n c (flat encRn rs) _ (HROW.out.keep (Keep.of_below ?q1)) HONE.out (by omega)).mono ?_); (case q1 => go_loud (first | exact Below.refl _ _ | exact pw_below_drewN (Below.refl _ _) 1 | exact pw_below_drewN (Below.refl _ _) 2)); rintro e w5 ⟨v5, rfl, h5⟩; go_loud (obtain ⟨A5, c5, rfl⟩ := RowAt.slice h5.1); go_loud (have HV5 := Aside0.mk (show RnV wA.heap.size w5 A5 n N ∧ n ≤ c5 ∧ c5 ≤ 9223372036854775807 ∧ Below wA.heap.size wA w5 from ⟨(by have h := RnV.of_row h5 HN.out HOK.out; exact h), own_cap h5.1.own, row_cap h5.1, ⟨h5.2.os, h5.2.tape, h5.2.output, h5.2.size, h5.2.block⟩⟩)); have HX2 := Aside0.mk (show w5.cell? ⟨b4, 0, none⟩ = some (.int .i64 p) ∧ w5.cell? ⟨b4, 1, none⟩ = some (.int .i64 M) ∧ w5.cell? ⟨b4, 2, none⟩ = some (.int .i64 k) from ⟨pw_cell_below HV5.out.2.2.2 HX.out.1, pw_cell_below HV5.out.2.2.2 HX.out.2.1, pw_cell_below HV5.out.2.2.2 HX.out.2.2⟩); clear h5)
        | (go_at_call 139; go_loud (refine (rdel_calls wA.heap.size A5 n c5 N p M k _ (HV5.out.1.below ?q1) ?q2 hn2 HV5.out.2.1 HV5.out.2.2.1).mono ?_); (case q1 => first | exact Below.refl _ _ | exact pw_below_drewN (Below.refl _ _) 1); (case q2 => exact HV5.out.2.2.2.size); rintro e w6 ⟨A6, n6, rfl, h6⟩; have HV6 := Aside0.mk (show n6 ≤ n ∧ RnV wA.heap.size w6 A6 n6 N ∧ Below wA.heap.size wA w6 from ⟨h6.out.1, h6.out.2.1, HV5.out.2.2.2.trans (show Below wA.heap.size w5 w6 from ⟨h6.out.2.2.os, h6.out.2.2.tape, h6.out.2.2.output, h6.out.2.2.size, h6.out.2.2.block⟩)⟩); have HX3 := Aside0.mk (show w6.cell? ⟨b4, 0, none⟩ = some (.int .i64 p) ∧ w6.cell? ⟨b4, 1, none⟩ = some (.int .i64 M) ∧ w6.cell? ⟨b4, 2, none⟩ = some (.int .i64 k) from ⟨pw_cell_below HV6.out.2.2 HX.out.1, pw_cell_below HV6.out.2.2 HX.out.2.1, pw_cell_below HV6.out.2.2 HX.out.2.2⟩); clear h6))
    all_goals
      go_wp2
      go_meet
      exact ⟨_, _, _, rfl, HV6⟩
  case rest =>
  obtain ⟨A6, n6, c6, rfl, hA6⟩ := hcut
  have HV6 := Aside0.mk hA6.out
  clear hA6 HX d0 d1 d2
  go_upto_region 4 with (go_at_call 142; go_loud (refine (rsort_calls wA.heap.size A6 n6 c6 N _ HV6.out.2.1 (HV6.out.2.2.size) (by have := HV6.out.1; omega)).mono ?_); rintro e w7 ⟨rfl, h1, h2⟩; have HV7 := Aside0.mk (show RnV wA.heap.size w7 A6 n6 N ∧ Below wA.heap.size wA w7 from ⟨h1, HV6.out.2.2.trans h2⟩); clear h1 h2)
  have HC0 := Aside0.mk (show ChI w b4 wA.heap.size p M k A6 n6 N 0 (.slice none 0 0) w7 from
    ⟨(HV7.out.2.block b4 (by have := HAS.out; omega)).trans HA4.out, HV7.out.1, (HAB.out.trans (HV7.out.2.mono HAB.out.size)), F, 0, (HV7.out.2.block (b4 + 1) (by have := HAS.out; omega)).trans HA5.out, .inl ⟨rfl, rfl, hFb.1, hFb.2, rfl, hmf⟩⟩)
  have HB4 := Aside0.mk (show b4 + 2 = wA.heap.size ∧ w.heap.size ≤ b4 from ⟨HAS.out.symm, HW4.out⟩)
  obtain ⟨base, hbase⟩ : ∃ base, wA.heap.size = base := ⟨_, rfl⟩
  rw [hbase] at HC0 HB4
  have hn6 : n6 ≤ 12 := by have := HV6.out.1; omega
  clear HV7 HV6 HA4 HA5 HAS HAB HW4 HROW hbase H HD3 hmf
  go_wp2
  go_loopg [17, 40] 2 (fun kq v17 v40 wr => ∃ i : Nat, v40 = .int .i64 (i : Int) ∧ Aside0 (kq + i = 2 ∧ i ≤ n6 ∧ ChI w b4 base p M k A6 n6 N i v17 wr))
  case atStart => exact ⟨0, rfl, ⟨by omega, by omega, HC0.out⟩⟩
  case round =>
    obtain ⟨i, rfl, hA⟩ := hrel
    obtain ⟨hkq, hin, hc⟩ := hA.out
    have HC := Aside0.mk hc
    have HKQ := Aside0.mk hkq
    clear hA hc hkq HC0
    by_cases hlt : i < n6
    · obtain ⟨b, rfl, hB⟩ := HC.out.rn (by omega)
      obtain ⟨⟨r0, r1, r2, r3, r4⟩, hy, e0, e1, e2, e3, e4⟩ := hB.at_ i hlt
      have HY := Aside0.mk hy
      have p1 : (0 ≤ (i : Int)) = True := eq_true (by omega)
      have p2 : ((i : Int) < (n6 : Int)) = True := eq_true (by omega)
      clear hy hB
      go_upto_region 8 with (fail)
      obtain ⟨w8, hw8⟩ : ∃ w8, w8 = wr.alloc (.cells #[.int .i64 r0, .int .i64 r1, .int .i64 r2, .int .i64 r3, .int .i64 r4] 200) := ⟨_, rfl⟩
      rw [← hw8]
      have hb8 : Below wr.heap.size wr w8 := hw8 ▸ below_alloc (Below.refl _ _) _
      have HX8 := Aside0.mk (show w8.heap[wr.heap.size]? = some (.cells #[.int .i64 r0, .int .i64 r1, .int .i64 r2, .int .i64 r3, .int .i64 r4] 200 (0, 0)) from hw8 ▸ heap_alloc_new wr _)
      have HC8 := Aside0.mk (HC.out.below hb8)
      have HLT8 := Aside0.mk (show b4 + 1 < wr.heap.size from by obtain ⟨F, sl, h1, _⟩ := HC.out.st; exact blk_lt h1)
      clear e0 e1 e2 e3 e4 hb8 hw8
      obtain ⟨F2, sl, h15, hst⟩ := HC8.out.st
      have H15 := Aside0.mk h15
      have HST := Aside0.mk hst
      have d0 : w8.cell? ⟨b4, 0, none⟩ = some (.int .i64 p) := (blk_cell HC8.out.c4 0).trans rfl
      have d1 : w8.cell? ⟨b4, 1, none⟩ = some (.int .i64 M) := (blk_cell HC8.out.c4 1).trans rfl
      have d2 : w8.cell? ⟨b4, 2, none⟩ = some (.int .i64 k) := (blk_cell HC8.out.c4 2).trans rfl
      have g0 : w8.cell? ⟨b4 + 1, 0, none⟩ = some (.int .i64 F2) := (blk_cell h15 0).trans rfl
      have g1 : w8.cell? ⟨b4 + 1, 1, none⟩ = some (.int .i64 sl) := (blk_cell h15 1).trans rfl
      clear h15 hst
      go_upto_if 46 with (go_at_call 144; go_loud (refine (vhas_calls F2 sl p M k _).mono ?_); rintro e w9 ⟨q, rfl, hq, hb9⟩; have HQ := Aside0.mk hq; have HB9 := Aside0.mk hb9; have HC9 := Aside0.mk (HC8.out.below hb9); have HX9 := Aside0.mk (blk_below HX8.out hb9); have H159 := Aside0.mk (blk_below H15.out hb9); clear hq hb9)
      clear d0 d1 d2 g0 g1
      have d0 : w9.cell? ⟨b4, 0, none⟩ = some (.int .i64 p) := (blk_cell HC9.out.c4 0).trans rfl
      have d1 : w9.cell? ⟨b4, 1, none⟩ = some (.int .i64 M) := (blk_cell HC9.out.c4 1).trans rfl
      have d2 : w9.cell? ⟨b4, 2, none⟩ = some (.int .i64 k) := (blk_cell HC9.out.c4 2).trans rfl
      have g0 : w9.cell? ⟨b4 + 1, 0, none⟩ = some (.int .i64 F2) := (blk_cell H159.out 0).trans rfl
      have g1 : w9.cell? ⟨b4 + 1, 1, none⟩ = some (.int .i64 sl) := (blk_cell H159.out 1).trans rfl
      rcases HST.out with ⟨h1, h2, h3, h4, h5, h6⟩ | ⟨h1, h2, h3, h4⟩
      · obtain rfl : q = false := by
          cases q
          · rfl
          · have := HQ.out.1 rfl; omega
        subst h2
        subst h5
        subst h1
        have x0 : w9.cell? ⟨wr.heap.size, 0, none⟩ = some (.int .i64 r0) := (blk_cell HX9.out 0).trans rfl
        have x2 : w9.cell? ⟨wr.heap.size, 2, none⟩ = some (.int .i64 r2) := (blk_cell HX9.out 2).trans rfl
        have QM := Aside0.mk (fun n => Calls.quiet_of ((memory_calls r2 (w9.drewN n)).mono fun _ _ ⟨h1, h2⟩ => ⟨h1, h2.out⟩))
        obtain ⟨mr, hmr⟩ : ∃ mr, memI r2 = mr := ⟨_, rfl⟩
        have hmrb : 0 ≤ mr ∧ mr ≤ 1048576 := hmr ▸ memI_bd r2
        rw [hmr] at QM
        have H36 := Aside0.mk (And.intro h3 (And.intro h4 h6))
        clear hmr h6
        go_upto_region 9 with (fail)
        refine Qt.wp_region_quiet_tail 6 (by kernel_rfl) (by kernel_rfl) ?_
        simp only [List.take_succ_cons, List.take_zero, List.drop_succ_cons, List.drop_zero]
        repeat (go_big_quiet_step ((go_at_call 138; exact QM.out _)))
        refine wpQuiet_nil ?_
        intro w10 hw10
        have hb10 : Below w9.heap.size w9 w10 := by obtain ⟨m, rfl⟩ := hw10; exact pw_below_drewN (Below.refl _ _) m
        have HC10 := Aside0.mk (HC9.out.below hb10)
        have HX10 := Aside0.mk (blk_below HX9.out hb10)
        have h1510 := blk_below H159.out hb10
        have HS10 := Aside0.mk (show wr.heap.size < w10.heap.size from blk_lt HX10.out)
        clear hw10 hb10 d0 d1 d2 g0 g1 x0 x2
        have g0 : w10.cell? ⟨b4 + 1, 0, none⟩ = some (.int .i64 F2) := (blk_cell h1510 0).trans rfl
        have g1 : w10.cell? ⟨b4 + 1, 1, none⟩ = some (.int .i64 0) := (blk_cell h1510 1).trans rfl
        have fz := fun k => blk_frozen h1510 k
        have H1510 := Aside0.mk h1510
        have x0 : w10.cell? ⟨wr.heap.size, 0, none⟩ = some (.int .i64 r0) := (blk_cell HX10.out 0).trans rfl
        have HF3 := Aside0.mk (show M ≤ F2 + mr from by have := H36.out; omega)
        clear h1510
        go_upto_region 11 with (fail)
        obtain ⟨w12, hw12⟩ : ∃ w12, w12 = (w10.setCell ⟨b4 + 1, 0, none⟩ (.int .i64 (F2 + mr))).setCell ⟨b4 + 1, 1, none⟩ (.int .i64 1) := ⟨_, rfl⟩
        rw [← hw12]
        have h1512 : w12.heap[b4 + 1]? = some (.cells #[.int .i64 (F2 + mr), .int .i64 1] 197 (0, 0)) := by
          rw [hw12]
          exact blk_put (cs' := #[.int .i64 (F2 + mr), .int .i64 1]) (blk_put (cs' := #[.int .i64 (F2 + mr), .int .i64 0]) H1510.out 0 _ rfl) 1 _ rfl
        have hoth : ∀ j, j ≠ b4 + 1 → w12.heap[j]? = w10.heap[j]? := fun j hj => by
          rw [hw12, Below.heap_setCell _ _ _ _ hj, Below.heap_setCell _ _ _ _ hj]
        have hsz12 : w12.heap.size = w10.heap.size := by rw [hw12]; simp [World.setCell]
        have hby12 : Below w.heap.size w w12 := by
          have hb := HC10.out.by_
          have h4 := HB4.out
          exact ⟨by rw [hw12]; exact hb.os, by rw [hw12]; exact hb.tape, by rw [hw12]; exact hb.output, by rw [hsz12]; exact hb.size, fun k hk => (hoth k (by omega)).trans (hb.block k hk)⟩
        have H1512 := Aside0.mk h1512
        have HBY12 := Aside0.mk hby12
        have HC412 := Aside0.mk ((hoth b4 (by omega)).trans HC10.out.c4)
        have HRN12 := Aside0.mk (HC10.out.rn.same (fun b' h1 h2 => hoth b' (by have := HB4.out; omega)) (by omega))
        have x012 : w12.cell? ⟨wr.heap.size, 0, none⟩ = some (.int .i64 r0) := (World.cell?_of_block (a := ⟨wr.heap.size, 0, none⟩) (hoth wr.heap.size (by have := HLT8.out; omega))).trans x0
        obtain ⟨w13, hw13⟩ : ∃ w13, w13 = w12.alloc (.cells #[.int .i64 r0] 3) := ⟨_, rfl⟩
        have hb13 : Below w12.heap.size w12 w13 := hw13 ▸ below_alloc (Below.refl _ _) _
        have HX13 := Aside0.mk (show w13.heap[w12.heap.size]? = some (.cells #[.int .i64 r0] 3 (0, 0)) from hw13 ▸ heap_alloc_new w12 _)
        have HB13 := Aside0.mk hb13
        have HW13 := Aside0.mk hw13
        have HNIL := Aside0.mk (RowAt.nil (fun k => w.heap.size ≤ k) w13 3 1)
        clear hw12 h1512 hoth hsz12 hby12 g0 g1 fz x0 hb13 hw13
        go_upto_region 12 with (at_builtin; rw [← HW13.out]; go_loud (refine wp_app rfl (.tmp 58) (.tmp 61) rfl Tryz.underlying22 info3 (.slice none 0 0) 0 w12.heap.size [] r0 rfl rfl HNIL.out.own HX13.out (by omega) ?_); intro v6 w6 hK6; have HK6 := Aside0.mk hK6.out; clear hK6)
        have hb6 : Below w13.heap.size w13 w6 := ⟨HK6.out.by_.os, HK6.out.by_.tape, HK6.out.by_.output, HK6.out.by_.size, fun k hk => HK6.out.by_.block k hk (fun e => by cases e)⟩
        have hb126 := below_step HB13.out hb6
        have HNC := Aside0.mk (show ChI w b4 base p M k (some ⟨b, 0, none⟩) n6 N 1 v6 w6 from by
          refine ⟨blk_below HC412.out hb126, HRN12.out.below hb126, below_step HBY12.out hb126, F2 + mr, 1, blk_below H1512.out hb126, .inr ⟨rfl, rfl, HF3.out, ?_⟩⟩
          obtain ⟨y, hy1, hy2⟩ := HY.out
          have hy1 : r0 = (y : Int) := hy1
          refine ⟨y, hy2, ⟨⟨?_, fun k hk => ?_⟩, below_step HBY12.out hb126⟩⟩
          · have h := HK6.out.own
            rw [hy1] at h
            exact h
          · rcases HK6.out.at_ with h | ⟨bb, h, hb⟩
            · rw [h] at hk; cases hk
            · rw [h] at hk
              have := Option.some.inj hk
              have := HBY12.out.size
              have := HB13.out.size
              show w.heap.size ≤ k
              omega)
        clear hb6 hb126 x012
        go_wp2
        go_roundg (gk - 1)
        case measure => have := HKQ.out; omega
        case rel => exact ⟨1, rfl, ⟨by have := HKQ.out; omega, by omega, HNC.out⟩⟩
      · obtain rfl : q = true := HQ.out.2 ⟨by omega, h3⟩
        have H4 := Aside0.mk h4
        have H3 := Aside0.mk (And.intro h2 h3)
        have HC9' := Aside0.mk HC9.out.by_
        subst h2
        clear h1 h3 h4
        go_upto_if 67 with (go_at_call 144; go_loud (refine (vhas_calls F2 1 p M k _).mono ?_); rintro e w10 ⟨q2, rfl, hq, hb10⟩; obtain rfl : q2 = true := hq.2 ⟨by omega, H3.out.2⟩; have HB10 := Aside0.mk hb10; clear hq hb10)
        go_wp2
        go_ret2
        obtain ⟨y, hy1, hy2⟩ := H4.out
        exact Or.inr ⟨_, y, rfl, hy1, ⟨hy2.1.keep (Keep.of_below (below_step HB9.out HB10.out)), below_step hy2.2 (below_step HB9.out HB10.out)⟩⟩
    · have p2 : ((i : Int) < (n6 : Int)) = False := eq_false (by omega)
      obtain ⟨F2, sl, h15, hst⟩ := HC.out.st
      have HST := Aside0.mk hst
      have d0 : wr.cell? ⟨b4, 0, none⟩ = some (.int .i64 p) := (blk_cell HC.out.c4 0).trans rfl
      have d1 : wr.cell? ⟨b4, 1, none⟩ = some (.int .i64 M) := (blk_cell HC.out.c4 1).trans rfl
      have d2 : wr.cell? ⟨b4, 2, none⟩ = some (.int .i64 k) := (blk_cell HC.out.c4 2).trans rfl
      have g0 : wr.cell? ⟨b4 + 1, 0, none⟩ = some (.int .i64 F2) := (blk_cell h15 0).trans rfl
      have g1 : wr.cell? ⟨b4 + 1, 1, none⟩ = some (.int .i64 sl) := (blk_cell h15 1).trans rfl
      clear h15 hst
      go_upto_if 67 with (go_at_call 144; go_loud (refine (vhas_calls F2 sl p M k _).mono ?_); rintro e w9 ⟨q, rfl, hq, hb9⟩; have HQ := Aside0.mk hq; have HB9 := Aside0.mk hb9; clear hq hb9)
      rcases HST.out with ⟨h1, h2, h3, h4, h5, h6⟩ | ⟨h1, h2, h3, h4⟩
      · obtain rfl : q = false := by
          cases q
          · rfl
          · have := HQ.out.1 rfl; omega
        clear h1 h2 h3 h4 h5 h6
        go_wp2
        go_ret2
        exact Or.inl ⟨rfl, below_step HC.out.by_ HB9.out⟩
      · obtain rfl : q = true := HQ.out.2 ⟨by omega, h3⟩
        have H4 := Aside0.mk h4
        clear h1 h2 h3 h4
        go_wp2
        go_ret2
        obtain ⟨y, hy1, hy2⟩ := H4.out
        exact Or.inr ⟨_, y, rfl, hy1, ⟨hy2.1.keep (Keep.of_below HB9.out), below_step hy2.2 HB9.out⟩⟩
end Go.Proofs.YtbpoapfkeinjnaaGreatDoor.Ld
