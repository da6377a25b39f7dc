/- The engine of the yard and what it leans on, part 18. -/
import Derived.Test.YtbpoapfkeinjnaaGreatDoorK17
namespace Go.Proofs.YtbpoapfkeinjnaaGreatDoor.Ld
open Go.RowKit Go.Proofs.YtbpoapfkeinjnaaGreatDoorW.PrintWords Go.Proofs.YtbpoapfkeinjnaaGreatDoorW.PrintLast Go.Proofs.YtbpoapfkeinjnaaGreatDoorW.PrintMore
set_option linter.unusedVariables false
set_option linter.unusedSimpArgs false
attribute [local go_sem] max2_int min2_int max_two min_two
def reply (r st t slot ep : Int) : Value := .agg #[.int .i64 r, .int .i64 st, .int .i64 t, .int .i64 slot, .int .i64 ep]
def startedE (e : Eng) (t : Nat) : Eng := { e with led := takeSt e.led (t : Int) (e.mem t), life := upf e.life t (startSt (e.life t)), since := upf e.since t e.begun, begun := e.begun + 1 }
def startsSt (e : Eng) (t : Nat) (q : Hp) : Eng := { startedE e t with tm := q, log := e.log ++ [evOf (startedE e t) 1 t] }
theorem LifeOk.later {b : Int} {l : LifeS} (h : LifeOk b l) : LifeOk (b + 1) l := ⟨h.st, by have := h.ep; omega, h.ms, h.mt, h.tr, h.sp, h.pr⟩
theorem startSt_ok {b : Int} {l : LifeS} (h : LifeOk b l) : LifeOk (b + 1) (startSt l) := by
  unfold startSt
  split
  · next he => exact ⟨by show 0 ≤ (2 : Int) ∧ (2 : Int) ≤ 7; omega, by have := h.ep; show 0 ≤ l.epoch + 1 ∧ l.epoch + 1 ≤ b + 1; omega, h.ms, by rcases h.mt with h3 | h3; exact .inl h3; omega, h.tr, h.sp, h.pr⟩
  · exact h.later
theorem startedE_inv {e : Eng} (h : EngInv e) {t : Nat} (ht : t < e.N) (hk : takeErr e.led (t : Int) (e.mem t) = 0) : EngInv (startedE e t) :=
  { h with
    life := fun j hj => by
      show LifeOk (e.begun + 1) (upf e.life t (startSt (e.life t)) j)
      by_cases hij : j = t
      · rw [hij, upf_same]; exact startSt_ok (h.life t ht)
      · rw [upf_far _ _ _ hij]; exact (h.life j hj).later
    led := inv_take h.led _ _
    ledid := fun i hi => by
      obtain ⟨j, hj⟩ := took h.led hk
      have hi' : ((takeSt e.led (t : Int) (e.mem t)).p i).held = true := hi
      show ∃ u : Nat, ((takeSt e.led (t : Int) (e.mem t)).p i).id = _ ∧ _
      rw [hj.st] at hi' ⊢
      have e1 : (((e.led.put j ⟨true, (t : Int), e.mem t⟩).uses (e.led.used + e.mem t)).p i) = if i = j then ⟨true, (t : Int), e.mem t⟩ else e.led.p i := rfl
      rw [e1] at hi' ⊢
      by_cases hij : i = j
      · rw [if_pos hij]; exact ⟨t, rfl, ht⟩
      · rw [if_neg hij] at hi' ⊢; exact h.ledid i hi'
    ledb := (take_budget _ _ _).trans h.ledb
    begun := by have := h.begun; show 0 ≤ e.begun + 1; omega
    room := by
      obtain ⟨M, h0, h1, h2, h3⟩ := h.room
      refine ⟨M, h0, h1, fun i => ?_, ?_⟩
      · obtain ⟨j, hj⟩ := took h.led hk
        show ((takeSt e.led (t : Int) (e.mem t)).p i).mem ≤ M
        rw [hj.st]
        have e1 : (((e.led.put j ⟨true, (t : Int), e.mem t⟩).uses (e.led.used + e.mem t)).p i) = if i = j then ⟨true, (t : Int), e.mem t⟩ else e.led.p i := rfl
        rw [e1]
        by_cases hij : i = j
        · rw [if_pos hij]; exact h1 t ht
        · rw [if_neg hij]; exact h2 i
      · show (((takeSt e.led (t : Int) (e.mem t)).many : Int) + 1) * M ≤ e.c.budget
        rw [take_many]; exact h3 }
theorem startsSt_inv {e : Eng} (h : EngInv e) {t : Nat} (ht : t < e.N) (hk : takeErr e.led (t : Int) (e.mem t) = 0) {q : Hp} (h1 : HpInv q) (h2 : q.at_.length = e.N) : EngInv (startsSt e t q) := { startedE_inv h ht hk with tm := h1, tmN := h2 }
structure LocB (S : Nat → Prop) (w : World) (g : Nat) (K : EK) (e : Eng) (S1 : Nat → Prop) (w1 : World) (B : Nat) (o : Obj) : Prop where
  l : Loc S w g K e S1 w1
  n : ¬ S1 B
  b : w1.heap[B]? = some o
section
variable {S S1 : Nat → Prop} {w w1 w2 : World} {g : Nat} {K K' : EK} {e e2 : Eng} {B : Nat} {o : Obj}
theorem LocB.step (h : LocB S w g K e S1 w1 B o) (t : To S1 w1 g K' e2 w2) : LocB S w g K' e2 (fun j => up S1 w1 w2 j ∧ j < w2.heap.size) w2 B o :=
  ⟨h.l.step t, (h.l.own t (blk_lt h.b) h.n).1, (h.l.own t (blk_lt h.b) h.n).2.trans h.b⟩
theorem LocB.below (h : LocB S w g K e S1 w1 B o) (t : Below w1.heap.size w1 w2) : LocB S w g K e S1 w2 B o := ⟨h.l.below t, h.n, blk_below h.b t⟩
theorem LocB.start (h : EngAt S w g K e) (o : Obj) : LocB S w g K e (fun k => S k ∧ k < w.heap.size) (w.alloc o) w.heap.size o :=
  ⟨(Loc.start h).below (below_alloc (Below.refl _ _) _), fun h => by have := h.2; omega, heap_alloc_new w o⟩
theorem LocB.write (h : LocB S w g K e S1 w1 B o) (hc : Chg (fun k => k = B) w1 w2) (hB : w.heap.size ≤ B) : To S w g K e w2 := (h.l.off hc (fun j h1 h2 => h.n (h2 ▸ h1)) (fun j hj => hj ▸ hB)).done
end
def rep0 : Obj := .cells #[.int .i64 0, .int .i64 0, .int .i64 0, .int .i64 0, .int .i64 0] 34
theorem reply_put {w w' : World} {B : Nat} (h : w.heap[B]? = some (.cells #[.int .i64 0, .int .i64 0, .int .i64 0, .int .i64 0, .int .i64 0] 34 (0, 0))) (a b c d e : Value)
    (hw : w' = ((((w.setCell ⟨B, 0, none⟩ a).setCell ⟨B, 1, none⟩ b).setCell ⟨B, 2, none⟩ c).setCell ⟨B, 3, none⟩ d).setCell ⟨B, 4, none⟩ e) :
    (w'.cell? ⟨B, 0, none⟩ = some a ∧ w'.cell? ⟨B, 1, none⟩ = some b ∧ w'.cell? ⟨B, 2, none⟩ = some c ∧ w'.cell? ⟨B, 3, none⟩ = some d ∧ w'.cell? ⟨B, 4, none⟩ = some e) ∧ Chg (fun k => k = B) w w' := by
  have hb := blk_put (blk_put (blk_put (blk_put (blk_put h 0 a rfl) 1 b rfl) 2 c rfl) 3 d rfl) 4 e rfl
  subst hw
  exact ⟨⟨(blk_cell hb 0).trans rfl, (blk_cell hb 1).trans rfl, (blk_cell hb 2).trans rfl, (blk_cell hb 3).trans rfl, (blk_cell hb 4).trans rfl⟩, ((((((Chg.refl (fun k => k = B) w).set rfl _ _).set rfl _ _).set rfl _ _).set rfl _ _).set rfl _ _)⟩
theorem reply_cells {w : World} {B : Nat} (h : w.heap[B]? = some (.cells #[.int .i64 0, .int .i64 0, .int .i64 0, .int .i64 0, .int .i64 0] 34 (0, 0))) :
    w.cell? ⟨B, 0, none⟩ = some (.int .i64 0) ∧ w.cell? ⟨B, 1, none⟩ = some (.int .i64 0) ∧ w.cell? ⟨B, 2, none⟩ = some (.int .i64 0) ∧ w.cell? ⟨B, 3, none⟩ = some (.int .i64 0) ∧ w.cell? ⟨B, 4, none⟩ = some (.int .i64 0) ∧ ∀ k, w.frozen? ⟨B, k, none⟩ = false :=
  ⟨(blk_cell h 0).trans rfl, (blk_cell h 1).trans rfl, (blk_cell h 2).trans rfl, (blk_cell h 3).trans rfl, (blk_cell h 4).trans rfl, fun k => blk_frozen h k⟩
def StartsPost (S : Nat → Prop) (g : Nat) (K : EK) (e : Eng) (r : Int) (t : Nat) (w : World) (en : Ending) (w' : World) : Prop :=
  (takeErr e.led (t : Int) (e.mem t) ≠ 0 ∧ en = .returned (.tuple #[reply 0 0 0 0 0, .int .i64 (takeErr e.led (t : Int) (e.mem t))]) ∧ To S w g K e w') ∨
  (takeErr e.led (t : Int) (e.mem t) = 0 ∧ en = .returned (.tuple #[reply r 0 (t : Int) (takeSlot e.led (t : Int) (e.mem t)) (startSt (e.life t)).epoch, .int .i64 0]) ∧ ∃ q, SetRel e.tm q t (e.now + e.c.timeout) ∧ To S w g K (startsSt e t q) w')
set_option maxHeartbeats 8000000 in
set_option maxRecDepth 100000 in
theorem starts_calls (S : Nat → Prop) (g : Nat) (K : EK) (e : Eng) (r : Int) (t : Nat) (w : World) (H : EngAt S w g K e) (hi : EngInv e) (ht : t < e.N) (hb : e.begun ≤ 1000000) (hl : e.log.length ≤ 1000000) :
    Calls Tryz.prog 59 #[.pointer (some ⟨g, 0, none⟩), .int .i64 r, .int .i64 (t : Int)] w (StartsPost S g K e r t w) := by
  have HI := Aside0.mk hi
  have hN := hi.N.2
  obtain ⟨w0, hw0⟩ : ∃ w0, w0 = w.alloc (.cells #[.int .i64 0, .int .i64 0, .int .i64 0, .int .i64 0, .int .i64 0] 34) := ⟨_, rfl⟩
  have HL0 := Aside0.mk (show LocB S w g K e (fun k => S k ∧ k < w.heap.size) w0 w.heap.size rep0 from hw0 ▸ LocB.start H rep0)
  have HW0 := Aside0.mk hw0
  have q1 : (0 ≤ (t : Int)) = True := eq_true (by omega)
  have q2 : ((t : Int) < (e.N : Int)) = True := eq_true (by omega)
  clear H hi hw0
  go_enter Tryz.func59, Tryz.ntmps59
  go_upto_region 1 with (fail)
  rw [← HW0.out]
  obtain ⟨B, hB⟩ : ∃ B, w.heap.size = B := ⟨_, rfl⟩
  rw [hB] at HL0 ⊢
  have HBB := Aside0.mk (show w.heap.size ≤ B by omega)
  obtain ⟨S1, hS1⟩ : ∃ S1 : Nat → Prop, (fun k => S k ∧ k < B) = S1 := ⟨_, rfl⟩
  rw [hS1] at HL0
  clear hB hS1
  have c11 := HL0.out.l.at_.ftasks
  obtain ⟨ct, cm, cl, _, _, _⟩ := HL0.out.l.at_.ftask t ht
  obtain ⟨c15, hat, hback⟩ := HL0.out.l.at_.led
  have HAT := Aside0.mk hat
  have HBACK := Aside0.mk hback
  have HFIT := Aside0.mk HI.out.led.fits
  obtain ⟨er, her⟩ : ∃ er, takeErr e.led (t : Int) (e.mem t) = er := ⟨_, rfl⟩
  obtain ⟨sl, hsl⟩ : ∃ sl, takeSlot e.led (t : Int) (e.mem t) = sl := ⟨_, rfl⟩
  obtain ⟨mm, hmm⟩ : ∃ mm, e.mem t = mm := ⟨_, rfl⟩
  rw [hmm] at cm her hsl
  have HER := Aside0.mk her
  have HSL := Aside0.mk hsl
  have HMM := Aside0.mk hmm
  clear hat hback her hsl hmm
  go_upto_region 2 with (fail)
  have HX := Aside0.mk (And.intro c15 cm)
  go_region_held3 (fun w' => w'.cell? ⟨g, 15, none⟩ = some (.pointer (some ⟨K.gl, 0, none⟩)) ∧ w'.cell? ⟨K.tp t, 0, none⟩ = some (.int .i64 mm)) (first | exact ⟨HX2.out.1, HX2.out.2⟩ | go_keep)
    (first | (go_at_call 107; (refine (Take_calls K.gl e.led HFIT.out (t : Int) mm _ (HAT.out.below ?q1)).mono ?_); (case q1 => exact pw_below_drewN (Below.refl _ _) 1); rintro en w2 ⟨rfl, h3, k3⟩; rw [HER.out, HSL.out]; have hTo := HBACK.out _ _ h3 ((Touch.of_below (pw_below_drewN (Below.refl _ w0) 1) _).trans k3); have HTo := Aside0.mk hTo; have HX2 := Aside0.mk (And.intro hTo.1.led.1 (HMM.out ▸ (hTo.1.ftask t ht).2.1)); clear h3 k3 hTo))
  have HL2 := Aside0.mk (HL0.out.step HTo.out)
  clear c15 cm
  by_cases he0 : er = 0
  · have b0 : (er != 0) = false := by rw [he0]; rfl
    have HTK := Aside0.mk (HER.out.trans he0)
    have HE0 := Aside0.mk he0
    have cl2 := (HL2.out.l.at_.ftask t ht).2.2.1
    obtain ⟨hli, hlb⟩ := HL2.out.l.at_.flife t ht
    have HLI := Aside0.mk hli
    have HLB := Aside0.mk hlb
    have HLO := Aside0.mk (HI.out.life t ht)
    clear he0 hli hlb c11 ct cl
    go_upto_region 6 with (go_at_call 108; go_loud (refine (LStart_calls (K.lp t) (e.life t) HLO.out.st ?q1 _ HLI.out).mono ?_); (case q1 => have h1 := HLO.out.ep; omega); rintro en w3 ⟨rfl, h3, k3⟩; have HL3 := Aside0.mk (HL2.out.step (HLB.out _ _ h3 k3)); clear h3 k3)
    have c19 := HL3.out.l.at_.fbegun
    obtain ⟨_, _, _, _, c4, f4⟩ := HL3.out.l.at_.ftask t ht
    have f4 := f4 4
    have HS4 := Aside0.mk (HL3.out.l.at_.stask t ht e.begun).2.1
    clear cl2
    go_upto_region 7 with (fail)
    obtain ⟨w4, hw4⟩ : ∃ w4, w4 = w3.setCell ⟨K.tp t, 4, none⟩ (.int .i64 e.begun) := ⟨_, rfl⟩
    rw [← hw4] at HS4 ⊢
    have HL4 := Aside0.mk (HL3.out.step HS4.out)
    clear hw4 c19 c4 f4
    have c19 := HL4.out.l.at_.fbegun
    have f19 := HL4.out.l.at_.ffr 19
    have hbg0 := HI.out.begun
    have HS5 := Aside0.mk (HL4.out.l.at_.snum (e.begun + 1)).2
    go_upto_region 8 with (fail)
    obtain ⟨w5, hw5⟩ : ∃ w5, w5 = w4.setCell ⟨g, 19, none⟩ (.int .i64 (e.begun + 1)) := ⟨_, rfl⟩
    rw [← hw5] at HS5 ⊢
    have HL5 := Aside0.mk (HL4.out.step HS5.out)
    clear hw5 c19 f19
    obtain ⟨_, _, c6, _, _⟩ := HL5.out.l.at_.fc
    have c18 := HL5.out.l.at_.fnow
    obtain ⟨c14, _⟩ := HL5.out.l.at_.tm
    obtain ⟨now, hnow⟩ : ∃ now, (startedE e t).now = now := ⟨_, rfl⟩
    obtain ⟨tmo, htmo⟩ : ∃ tmo, e.c.timeout = tmo := ⟨_, rfl⟩
    have hnb := HI.out.now
    have htb := HI.out.c.timeout
    have c18' : w5.cell? ⟨g, 18, none⟩ = some (.int .i64 now) := by rw [← hnow]; exact c18
    have c6' : w5.cell? ⟨g, 6, none⟩ = some (.int .i64 tmo) := by rw [← htmo]; exact c6
    rw [show e.now = now from hnow] at hnb
    rw [htmo] at htb
    have e2 : IntKind.i64.wrap (now + tmo) = now + tmo := IntWalk.i64_in _ (by omega)
    have HEQ := Aside0.mk (And.intro hnow htmo)
    clear c18 c6 hnow htmo
    refine Qt.wp_region_quiet_tail 15 (by kernel_rfl) (by kernel_rfl) ?_
    simp only [List.take_succ_cons, List.take_zero, List.drop_succ_cons, List.drop_zero]
    repeat (go_big_quiet_step ((fail)))
    refine wpQuiet_nil ?_
    intro w9 hw9
    have HL9 := Aside0.mk (HL5.out.below (show Below w5.heap.size w5 w9 from by obtain ⟨m, rfl⟩ := hw9; exact pw_below_drewN (Below.refl _ _) m))
    clear hw9 c18' c6' e2 c14
    obtain ⟨c14, S2, htm, hlt, hback2⟩ := HL9.out.l.at_.tm
    have HTM := Aside0.mk htm
    have HBACK2 := Aside0.mk hback2
    clear htm hback2 hlt
    go_upto_region 9 with (go_at_call 85; go_loud (refine (TmSet_calls S2 K.gm e.tm t (now + tmo) _ HTM.out HI.out.tm (by rw [HI.out.tmN]; exact ht) (by rw [HI.out.tmN]; omega)).mono ?_); rintro en w6 ⟨rfl, ⟨q, hq, hq2⟩, hc⟩; have HQ := Aside0.mk hq; have HL6 := Aside0.mk (HL9.out.step (HBACK2.out _ _ hq2 hc)); clear hq hq2 hc)
    have HMANY := Aside0.mk (show (takeSt e.led (t : Int) mm).many ≤ 16 from by rw [take_many]; exact HI.out.led.many)
    go_upto_region 10 with (go_at_call 81; go_loud (refine (notes_calls _ g K _ 1 t _ HL6.out.l.at_ hN ht HMANY.out hl).mono ?_); rintro en w7 ⟨rfl, h7⟩; have HL7 := Aside0.mk (HL6.out.step h7); clear h7)
    obtain ⟨d0, d1, d2, d3, d4, fb⟩ := reply_cells HL7.out.b
    obtain ⟨_, _, cl7, _, _, _⟩ := HL7.out.l.at_.ftask t ht
    have hl7 : LifeAt w7 (K.lp t) (upf e.life t (startSt (e.life t)) t) := (HL7.out.l.at_.flife t ht).1
    rw [upf_same] at hl7
    have HLI7 := Aside0.mk hl7
    obtain ⟨ep, hep⟩ : ∃ ep, (startSt (e.life t)).epoch = ep := ⟨_, rfl⟩
    have HEP := Aside0.mk hep
    clear hl7 hep
    go_wp2_with (go_at_call 109; go_loud (refine (Epoch_calls (K.lp t) (startSt (e.life t)) _ HLI7.out).mono ?_); rintro en w8 ⟨rfl, hd⟩; rw [HEP.out]; have HL8 := Aside0.mk (HL7.out.below hd.below); obtain ⟨p0, p1, p2, p3, p4, pb⟩ := reply_cells (HL7.out.below hd.below).b; clear hd)
    obtain ⟨w10, hw10⟩ : ∃ w10, w10 = ((((w8.setCell ⟨B, 0, none⟩ (.int .i64 r)).setCell ⟨B, 1, none⟩ (.int .i64 0)).setCell ⟨B, 2, none⟩ (.int .i64 (t : Int))).setCell ⟨B, 3, none⟩ (.int .i64 sl)).setCell ⟨B, 4, none⟩ (.int .i64 ep) := ⟨_, rfl⟩
    rw [← hw10]
    obtain ⟨⟨e0, e1, e2, e3, e4⟩, hc⟩ := reply_put HL8.out.b _ _ _ _ _ hw10
    refine bodyPost_ret (v := .tuple #[reply r 0 (t : Int) sl ep, .int .i64 0]) (by simp [results, Tryz.results59, go_sem, reply, e0, e1, e2, e3, e4]) rfl ?_
    refine .inr ⟨by rw [HMM.out]; exact HTK.out, by rw [HMM.out, HSL.out, HEP.out], q, by have h := HQ.out; rw [← HEQ.out.1, ← HEQ.out.2] at h; exact h, ?_⟩
    have h := HL8.out.write hc HBB.out
    unfold startsSt startedE
    rw [HMM.out]
    exact h
  · have HNO := Aside0.mk (take_no (s := e.led) (id := (t : Int)) (mem := mm) (by rw [HER.out]; exact he0))
    have b0 : (er != 0) = true := by rw [bne_iff_ne]; exact he0
    have HE0 := Aside0.mk he0
    obtain ⟨d0, d1, d2, d3, d4, fb⟩ := reply_cells HL2.out.b
    clear he0
    go_wp2
    obtain ⟨w3, hw3⟩ : ∃ w3, w3 = ((((w2.setCell ⟨B, 0, none⟩ (.int .i64 0)).setCell ⟨B, 1, none⟩ (.int .i64 0)).setCell ⟨B, 2, none⟩ (.int .i64 0)).setCell ⟨B, 3, none⟩ (.int .i64 0)).setCell ⟨B, 4, none⟩ (.int .i64 0) := ⟨_, rfl⟩
    rw [← hw3]
    obtain ⟨⟨e0, e1, e2, e3, e4⟩, hc⟩ := reply_put HL2.out.b _ _ _ _ _ hw3
    refine bodyPost_ret (v := .tuple #[reply 0 0 0 0 0, .int .i64 er]) (by simp [results, Tryz.results59, go_sem, reply, e0, e1, e2, e3, e4]) rfl ?_
    exact .inl ⟨by rw [HMM.out, HER.out]; exact HE0.out, by rw [HMM.out, HER.out], by have h := HL2.out; rw [HNO.out.2] at h; exact h.write hc HBB.out⟩
end Go.Proofs.YtbpoapfkeinjnaaGreatDoor.Ld
namespace Go.Proofs.YtbpoapfkeinjnaaGreatDoor.Ld
open Go.RowKit Go.Proofs.YtbpoapfkeinjnaaGreatDoorW.PrintWords Go.Proofs.YtbpoapfkeinjnaaGreatDoorW.PrintLast Go.Proofs.YtbpoapfkeinjnaaGreatDoorW.PrintMore
set_option linter.unusedVariables false
set_option linter.unusedSimpArgs false
attribute [local go_sem] max2_int min2_int max_two min_two
def NewRow (w : World) (v : Value) (xs : List Int) (w' : World) : Prop := RowAt (fun k => w.heap.size ≤ k) w' 3 1 v xs.length (ints xs) ∧ Below w.heap.size w w'
theorem NewRow.ri {w w' : World} {v : Value} {xs : List Int} (h : NewRow w v xs w') : ∃ A c, v = .slice A xs.length c ∧ RI w' A xs := by
  obtain ⟨A, c, h1, h2, _⟩ := RowAt.ri h.1
  exact ⟨A, c, h1, h2⟩
theorem new_more {w w1 w6 : World} {v v6 : Value} {xs : List Int} {x : Int} (h : RowAt (fun k => w.heap.size ≤ k) w1 3 1 v xs.length (ints xs)) (hb : Below w.heap.size w w1) (ho : w6.ownsRow 0 3 1 v6 (xs ++ [x]).length (encs (Value.int .i64) (xs ++ [x]))) (hg : w1.grownBy w6 v.ownBlock)
    (hat : v6.ownBlock = v.ownBlock ∨ ∃ b, v6.ownBlock = some b ∧ w1.heap.size ≤ b) : RowAt (fun k => w.heap.size ≤ k) w6 3 1 v6 (xs ++ [x]).length (ints (xs ++ [x])) ∧ Below w.heap.size w w6 := by
  have hc := (Chg.refl (fun k => w.heap.size ≤ k) w1).grown hg (fun k hk => h.fp k hk)
  refine ⟨⟨ho, fun k hk => ?_⟩, Chg.to_below hb hc (fun i hi => hi)⟩
  rcases hat with hat | ⟨b, hat, hle⟩
  · exact h.fp k (hat ▸ hk)
  · rw [hat] at hk; injection hk with hk; have := hb.size; omega
theorem map_range_succ {α : Type} (f : Nat → α) (n : Nat) : (List.range (n + 1)).map f = (List.range n).map f ++ [f n] := by rw [List.range_succ, List.map_append, List.map_singleton]
def statesL (e : Eng) (n : Nat) : List Int := (List.range n).map fun i => (e.life i).state
theorem statesL_len (e : Eng) (n : Nat) : (statesL e n).length = n := by simp [statesL]
set_option maxHeartbeats 8000000 in
set_option maxRecDepth 100000 in
theorem states_calls (S : Nat → Prop) (g : Nat) (K : EK) (e : Eng) (w : World) (H : EngAt S w g K e) (hN : e.N ≤ 12) :
    Calls Tryz.prog 53 #[.pointer (some ⟨g, 0, none⟩)] w fun en w' => ∃ v, en = .returned v ∧ NewRow w v (statesL e e.N) w' := by
  have HE := Aside0.mk H
  have c11 := H.ftasks
  obtain ⟨N, hNN⟩ : ∃ N, e.N = N := ⟨_, rfl⟩
  rw [hNN] at c11 hN ⊢
  have HNN := Aside0.mk hNN
  clear H hNN
  go_enter Tryz.func53, Tryz.ntmps53
  go_wp2
  go_loopg [2, 10] (N + 1) (fun kq v2 v10 wr => ∃ i : Nat, v10 = .int .i64 (i : Int) ∧ Aside0 (kq + i = N + 1 ∧ i ≤ N ∧ NewRow w v2 (statesL e i) wr))
  case atStart => exact ⟨0, rfl, ⟨by omega, by omega, RowAt.nil _ _ _ _, Below.refl _ _⟩⟩
  case round =>
    obtain ⟨i, rfl, hA⟩ := hrel
    obtain ⟨hk, hi, hrow⟩ := hA.out
    have HR := Aside0.mk hrow
    have HK := Aside0.mk hk
    clear hA hrow hk c11
    by_cases hlt : i < N
    · have H1 := Aside0.mk (HE.out.keep HR.out.2)
      have hi2 : i < e.N := by rw [HNN.out]; exact hlt
      obtain ⟨ct, _, cl, _, _, _⟩ := H1.out.ftask i hi2
      have HLI := Aside0.mk (H1.out.flife i hi2).1
      have q1 : (0 ≤ (i : Int)) = True := eq_true (by omega)
      have q2 : ((i : Int) < (N : Int)) = True := eq_true (by omega)
      obtain ⟨st, hst⟩ : ∃ st, (e.life i).state = st := ⟨_, rfl⟩
      have HST := Aside0.mk hst
      clear hst
      go_wp2_with (first
        | (go_at_call 30; (with_reducible refine (State_calls (K.lp i) (e.life i) _ HLI.out).mono ?_); rintro en w2 ⟨rfl, hd⟩; rw [HST.out]; have HR2 := Aside0.mk (show RowAt (fun k => w.heap.size ≤ k) w2 3 1 u2 (statesL e i).length (ints (statesL e i)) ∧ Below w.heap.size w w2 from ⟨HR.out.1.keep (Keep.of_below hd.below), below_step HR.out.2 hd.below⟩); clear hd)
        | (at_builtin; go_loud (refine print_append_of (w0 := w2) (Value.int .i64) 0 rfl (.tmp 14) (.tmp 20) 22 3 (.int .i64 0) 8 rfl Tryz.underlying22 info3 rfl (by decide) u2 (statesL e i) st rfl rfl rfl HR2.out.1.own (Below.refl _ _) (Nat.zero_le _) ?h2 ?_); (case h2 => rw [statesL_len]; omega); (intro v6 w6 ho6 hb6 hg6 hat6; have HN6 := Aside0.mk (new_more HR2.out.1 HR2.out.2 ho6 hg6 hat6); clear ho6 hb6 hg6 hat6)))
      go_roundg (gk - 1)
      case measure => have := HK.out; omega
      case rel =>
        have he : statesL e (i + 1) = statesL e i ++ [st] := by unfold statesL; rw [map_range_succ, HST.out]
        exact ⟨i + 1, by rw [show ((i : Int) + 1) = ((i + 1 : Nat) : Int) by omega], ⟨by have := HK.out; omega, by omega, by rw [he]; exact HN6.out⟩⟩
    · have p2 : ((i : Int) < (N : Int)) = False := eq_false (by omega)
      go_wp2
      go_ret
      obtain rfl : i = N := by omega
      exact ⟨_, rfl, HR.out⟩
end Go.Proofs.YtbpoapfkeinjnaaGreatDoor.Ld
namespace Go.Proofs.YtbpoapfkeinjnaaGreatDoor.Ld
open Go.RowKit Go.Proofs.YtbpoapfkeinjnaaGreatDoorW.PrintWords Go.Proofs.YtbpoapfkeinjnaaGreatDoorW.PrintLast Go.Proofs.YtbpoapfkeinjnaaGreatDoorW.PrintMore
set_option linter.unusedVariables false
set_option linter.unusedSimpArgs false
attribute [local go_sem] max2_int min2_int max_two min_two
def bestF (st pr : List Int) (b : Int) (n : Nat) : List Nat := (List.range n).filter fun t => decide (st.getD t 0 = 1 ∧ pr.getD t 0 = b)
def BestAt (st pr : List Int) (n : Nat) (b : Int) (l : List Nat) : Prop :=
  (b = -1 ∧ l = [] ∧ ∀ t, t < n → st.getD t 0 = 1 → pr.getD t 0 < 0) ∨ (0 ≤ b ∧ l = bestF st pr b n ∧ l ≠ [] ∧ ∀ t, t < n → st.getD t 0 = 1 → pr.getD t 0 ≤ b)
theorem bestF_succ (st pr : List Int) (b : Int) (n : Nat) : bestF st pr b (n + 1) = if st.getD n 0 = 1 ∧ pr.getD n 0 = b then bestF st pr b n ++ [n] else bestF st pr b n := by
  unfold bestF
  rw [List.range_succ, List.filter_append, List.filter_cons, List.filter_nil]
  by_cases h : st.getD n 0 = 1 ∧ pr.getD n 0 = b
  · rw [if_pos h, if_pos (decide_eq_true h)]
  · rw [if_neg h, if_neg (by rw [decide_eq_false h]; decide), List.append_nil]
theorem bestF_none (st pr : List Int) (b : Int) (n : Nat) (h : ∀ t, t < n → st.getD t 0 = 1 → pr.getD t 0 < b) : bestF st pr b n = [] := by
  unfold bestF
  rw [List.filter_eq_nil_iff]
  intro t ht
  have := List.mem_range.1 ht
  simp only [decide_eq_true_eq]
  intro ⟨h1, h2⟩
  have := h t (by omega) h1
  omega
theorem BestAt.skip {st pr : List Int} {n : Nat} {b : Int} {l : List Nat} (h : BestAt st pr n b l) (hs : st.getD n 0 ≠ 1 ∨ pr.getD n 0 < (if b < 0 then 0 else b)) : BestAt st pr (n + 1) b l := by
  rcases h with ⟨rfl, rfl, h⟩ | ⟨h0, h1, h2, h3⟩
  · refine .inl ⟨rfl, rfl, fun t ht hst => ?_⟩
    rcases Nat.lt_succ_iff_lt_or_eq.1 ht with c | rfl
    · exact h t c hst
    · rcases hs with c | c
      · exact absurd hst c
      · simpa using c
  · rw [if_neg (by omega)] at hs
    refine .inr ⟨h0, ?_, h2, fun t ht hst => ?_⟩
    · rw [bestF_succ, if_neg]
      · exact h1
      · rintro ⟨c1, c2⟩
        rcases hs with c | c
        · exact c c1
        · omega
    · rcases Nat.lt_succ_iff_lt_or_eq.1 ht with c | rfl
      · exact h3 t c hst
      · rcases hs with c | c
        · exact absurd hst c
        · omega
theorem BestAt.new {st pr : List Int} {n : Nat} {b : Int} {l : List Nat} (h : BestAt st pr n b l) (hs : st.getD n 0 = 1) (h0 : 0 ≤ pr.getD n 0) (hb : b < pr.getD n 0) : BestAt st pr (n + 1) (pr.getD n 0) [n] := by
  have hall : ∀ t, t < n → st.getD t 0 = 1 → pr.getD t 0 < pr.getD n 0 := fun t ht hst => by
    rcases h with ⟨_, _, h⟩ | ⟨_, _, _, h3⟩
    · have := h t ht hst; omega
    · have := h3 t ht hst; omega
  refine .inr ⟨h0, ?_, by simp, fun t ht hst => ?_⟩
  · rw [bestF_succ, if_pos ⟨hs, rfl⟩, bestF_none _ _ _ _ hall]; rfl
  · rcases Nat.lt_succ_iff_lt_or_eq.1 ht with c | rfl
    · have := hall t c hst; omega
    · exact Int.le_refl _
theorem BestAt.more {st pr : List Int} {n : Nat} {b : Int} {l : List Nat} (h : BestAt st pr n b l) (hs : st.getD n 0 = 1) (h0 : 0 ≤ b) (hb : pr.getD n 0 = b) : BestAt st pr (n + 1) b (l ++ [n]) := by
  rcases h with ⟨rfl, _, _⟩ | ⟨h1, h2, h3, h4⟩
  · omega
  · refine .inr ⟨h1, ?_, by simp, fun t ht hst => ?_⟩
    · rw [bestF_succ, if_pos ⟨hs, hb⟩, h2]
    · rcases Nat.lt_succ_iff_lt_or_eq.1 ht with c | rfl
      · exact h4 t c hst
      · omega
def BestPost (st pr : List Int) (n : Nat) (w : World) (en : Ending) (w' : World) : Prop := ∃ b v l, en = .returned (.tuple #[.int .i64 b, v]) ∧ BestAt st pr n b l ∧ NewRow w v (nats l) w'
theorem BestAt.len {st pr : List Int} {n : Nat} {b : Int} {l : List Nat} (h : BestAt st pr n b l) : l.length ≤ n := by
  rcases h with ⟨_, rfl, _⟩ | ⟨_, rfl, _⟩
  · simp
  · unfold bestF; have := List.length_filter_le (fun t => decide (st.getD t 0 = 1 ∧ pr.getD t 0 = b)) (List.range n); rwa [List.length_range] at this
theorem BestAt.lo {st pr : List Int} {n : Nat} {b : Int} {l : List Nat} (h : BestAt st pr n b l) : -1 ≤ b := by
  rcases h with ⟨rfl, _⟩ | ⟨h, _⟩ <;> omega
set_option maxHeartbeats 8000000 in
set_option maxRecDepth 100000 in
theorem Best_calls (st pr : List Int) (n c1 c2 : Nat) (A1 : Option Addr) (a2 : Addr) (w : World) (h1 : RI w A1 st) (h2 : RI w (some a2) pr) (l1 : st.length = n) (l2 : pr.length = n) (hc : n ≤ c2) (hn : n ≤ 100) (hc63 : c2 ≤ 9223372036854775807) :
    Calls Tryz.prog 52 #[.slice A1 n c1, .slice (some a2) n c2] w (BestPost st pr n w) := by
  have H1 := Aside0.mk h1
  have H2 := Aside0.mk h2
  have L1 := Aside0.mk l1
  have L2 := Aside0.mk l2
  clear h1 h2 l1 l2
  go_enter Tryz.func52, Tryz.ntmps52
  go_upto_block 0 with (fail)
  go_wp2
  go_loopg [4, 5, 16] (n + 1) (fun kq v4 v5 v16 wr => ∃ (b : Int) (i : Nat), v4 = .int .i64 b ∧ v16 = .int .i64 (i : Int) ∧ Aside0 (kq + i = n + 1 ∧ i ≤ n ∧ ∃ l, BestAt st pr i b l ∧ NewRow w v5 (nats l) wr))
  case atStart => exact ⟨-1, 0, rfl, rfl, ⟨by omega, by omega, [], .inl ⟨rfl, rfl, fun t ht => absurd ht (Nat.not_lt_zero _)⟩, RowAt.nil _ _ _ _, Below.refl _ _⟩⟩
  case round =>
    obtain ⟨b, i, rfl, rfl, hA⟩ := hrel
    obtain ⟨hk, hi, l, hbe, hrow⟩ := hA.out
    have HBE := Aside0.mk hbe
    have HR := Aside0.mk hrow
    have HK := Aside0.mk hk
    have hlo := hbe.lo
    have hll := hbe.len
    clear hA hbe hrow hk
    by_cases hlt : i < n
    · obtain ⟨ad1, rfl, d1⟩ := RI.at_ (ReadsOf.below H1.out HR.out.2) i (by rw [L1.out]; exact hlt)
      obtain ⟨_, ha2, d2⟩ := RI.at_ (ReadsOf.below H2.out HR.out.2) i (by rw [L2.out]; exact hlt)
      cases ha2
      obtain ⟨s, hs⟩ : ∃ s, st.getD i 0 = s := ⟨_, rfl⟩
      obtain ⟨p, hp⟩ : ∃ p, pr.getD i 0 = p := ⟨_, rfl⟩
      rw [hs] at d1
      rw [hp] at d2
      have HSP := Aside0.mk (And.intro hs hp)
      have q1 : (0 ≤ (i : Int)) = True := eq_true (by omega)
      have q2 : ((i : Int) < (n : Int)) = True := eq_true (by omega)
      clear hs hp
      by_cases c1 : s = 1
      · have b1 : (s != 1) = false := by rw [c1]; rfl
        by_cases c2 : p < (if b < 0 then 0 else b)
        · have HC2 := Aside0.mk c2
          by_cases cb : b < 0
          · rw [if_pos cb] at c2
            have b2 : decide (p < 0) = true := decide_eq_true c2
            clear c1 c2
            go_wp2
            go_roundg (gk - 1)
            case measure => have := HK.out; omega
            case rel => exact ⟨b, i + 1, rfl, by rw [show ((i : Int) + 1) = ((i + 1 : Nat) : Int) by omega], ⟨by have := HK.out; omega, by omega, l, HBE.out.skip (.inr (by rw [HSP.out.2]; exact HC2.out)), HR.out⟩⟩
          · rw [if_neg cb] at c2
            have b2 : decide (p < b) = true := decide_eq_true c2
            clear c1 c2
            go_wp2
            go_roundg (gk - 1)
            case measure => have := HK.out; omega
            case rel => exact ⟨b, i + 1, rfl, by rw [show ((i : Int) + 1) = ((i + 1 : Nat) : Int) by omega], ⟨by have := HK.out; omega, by omega, l, HBE.out.skip (.inr (by rw [HSP.out.2]; exact HC2.out)), HR.out⟩⟩
        · have HC1 := Aside0.mk c1
          have HC2 := Aside0.mk c2
          have hp0 : 0 ≤ p := by split at c2 <;> omega
          by_cases c3 : b < p
          · by_cases cb : b < 0
            · rw [if_pos cb] at c2
              have b2 : decide (p < 0) = false := decide_eq_false c2
              have b3 : decide (b < p) = true := decide_eq_true c3
              have HC3 := Aside0.mk c3
              clear c1 c2 c3
              go_wp2_with (at_builtin; go_loud (refine print_append_of (w0 := wr) (Value.int .i64) 0 rfl (.tmp 38) (.tmp 40) 22 3 (.int .i64 0) 8 rfl Tryz.underlying22 info3 rfl (by decide) (.slice none 0 0) (nats []) (i : Int) rfl rfl rfl (own_nil _ _ _ _) (Below.refl _ _) (Nat.zero_le _) (by simp [nats]) ?_); (intro v6 w6 ho6 hb6 hg6 hat6; have HN6 := Aside0.mk (new_more (w := w) (xs := nats []) (RowAt.nil _ _ _ _) HR.out.2 ho6 hg6 hat6); clear ho6 hb6 hg6 hat6))
              go_roundg (gk - 1)
              case measure => have := HK.out; omega
              case rel => exact ⟨p, i + 1, rfl, by rw [show ((i : Int) + 1) = ((i + 1 : Nat) : Int) by omega], ⟨by have := HK.out; omega, by omega, [i], by rw [← HSP.out.2]; exact HBE.out.new (HSP.out.1.trans HC1.out) (by rw [HSP.out.2]; exact hp0) (by rw [HSP.out.2]; exact HC3.out), HN6.out⟩⟩
            · rw [if_neg cb] at c2
              have b2 : decide (p < b) = false := decide_eq_false c2
              have b3 : decide (b < p) = true := decide_eq_true c3
              have HC3 := Aside0.mk c3
              clear c1 c2 c3
              go_wp2_with (at_builtin; go_loud (refine print_append_of (w0 := wr) (Value.int .i64) 0 rfl (.tmp 38) (.tmp 40) 22 3 (.int .i64 0) 8 rfl Tryz.underlying22 info3 rfl (by decide) (.slice none 0 0) (nats []) (i : Int) rfl rfl rfl (own_nil _ _ _ _) (Below.refl _ _) (Nat.zero_le _) (by simp [nats]) ?_); (intro v6 w6 ho6 hb6 hg6 hat6; have HN6 := Aside0.mk (new_more (w := w) (xs := nats []) (RowAt.nil _ _ _ _) HR.out.2 ho6 hg6 hat6); clear ho6 hb6 hg6 hat6))
              go_roundg (gk - 1)
              case measure => have := HK.out; omega
              case rel => exact ⟨p, i + 1, rfl, by rw [show ((i : Int) + 1) = ((i + 1 : Nat) : Int) by omega], ⟨by have := HK.out; omega, by omega, [i], by rw [← HSP.out.2]; exact HBE.out.new (HSP.out.1.trans HC1.out) (by rw [HSP.out.2]; exact hp0) (by rw [HSP.out.2]; exact HC3.out), HN6.out⟩⟩
          · have cb : ¬ b < 0 := by omega
            rw [if_neg cb] at c2
            have b2 : decide (p < b) = false := decide_eq_false c2
            have b3 : decide (b < p) = false := decide_eq_false c3
            have HE := Aside0.mk (show p = b by omega)
            clear c1 c2 c3
            go_wp2_with (at_builtin; go_loud (refine print_append_of (w0 := wr) (Value.int .i64) 0 rfl (.tmp 38) (.tmp 40) 22 3 (.int .i64 0) 8 rfl Tryz.underlying22 info3 rfl (by decide) u5 (nats l) (i : Int) rfl rfl rfl HR.out.1.own (Below.refl _ _) (Nat.zero_le _) ?h2 ?_); (case h2 => rw [nats_len]; omega); (intro v6 w6 ho6 hb6 hg6 hat6; have HN6 := Aside0.mk (new_more HR.out.1 HR.out.2 ho6 hg6 hat6); clear ho6 hb6 hg6 hat6))
            go_roundg (gk - 1)
            case measure => have := HK.out; omega
            case rel => exact ⟨b, i + 1, rfl, by rw [show ((i : Int) + 1) = ((i + 1 : Nat) : Int) by omega], ⟨by have := HK.out; omega, by omega, l ++ [i], HBE.out.more (HSP.out.1.trans HC1.out) (by have := HE.out; omega) (HSP.out.2.trans HE.out), by rw [← nats_snoc]; exact HN6.out⟩⟩
      · have b1 : (s != 1) = true := by rw [bne_iff_ne]; exact c1
        have HC1 := Aside0.mk c1
        clear c1
        go_wp2
        go_roundg (gk - 1)
        case measure => have := HK.out; omega
        case rel => exact ⟨b, i + 1, rfl, by rw [show ((i : Int) + 1) = ((i + 1 : Nat) : Int) by omega], ⟨by have := HK.out; omega, by omega, l, HBE.out.skip (.inl (by rw [HSP.out.1]; exact HC1.out)), HR.out⟩⟩
    · have p2 : ((i : Int) < (n : Int)) = False := eq_false (by omega)
      go_wp2
      go_ret2
      obtain rfl : i = n := by omega
      exact ⟨b, _, l, rfl, HBE.out, HR.out⟩
end Go.Proofs.YtbpoapfkeinjnaaGreatDoor.Ld
namespace Go.Proofs.YtbpoapfkeinjnaaGreatDoor.Ld
open Go.RowKit Go.Proofs.YtbpoapfkeinjnaaGreatDoorW.PrintWords Go.Proofs.YtbpoapfkeinjnaaGreatDoorW.PrintLast Go.Proofs.YtbpoapfkeinjnaaGreatDoorW.PrintMore
set_option linter.unusedVariables false
set_option linter.unusedSimpArgs false
set_option linter.unnecessarySimpa false
attribute [local go_sem] max2_int min2_int max_two min_two
structure Tds (w : World) (A : Option Addr) (N : Nat) (mem cost : Nat → Int) : Prop where
  at_ : ∀ t, t < N → ∃ ad, A = some ad ∧ w.cell? (ad.add (t * 2)) = some (.int .i64 (mem t)) ∧ w.cell? ⟨(ad.add (t * 2)).block, (ad.add (t * 2)).off + 1, none⟩ = some (.int .i64 (cost t))
theorem Tds.below {w w' : World} {A : Option Addr} {N : Nat} {mem cost : Nat → Int} (h : Tds w A N mem cost) (hb : Below w.heap.size w w') : Tds w' A N mem cost :=
  ⟨fun t ht => by obtain ⟨ad, h1, h2, h3⟩ := h.at_ t ht; exact ⟨ad, h1, pw_cell_below hb h2, pw_cell_below hb h3⟩⟩
theorem EngAt.tds {S : Nat → Prop} {w : World} {g : Nat} {K : EK} {e : Eng} (h : EngAt S w g K e) : ∃ A c, K.va = .slice A e.N c ∧ w.cell? ⟨g, 10, none⟩ = some (.slice A e.N c) ∧ Tds w A e.N e.mem e.cost := by
  obtain ⟨hc, S1, hr⟩ := h.all
  obtain ⟨A, c, hv⟩ := RowAt.slice hr
  rw [hv] at hr hc
  refine ⟨A, c, hv, hc, ⟨fun t ht => ?_⟩⟩
  obtain ⟨ad, h1, h2, h3⟩ := hr.item (enc := encTd) (sz := 2) (fun _ => rfl) (by decide) ⟨0, 0⟩ t (by rw [Eng.tds_len]; exact ht)
  have hg : e.tds.getD t ⟨0, 0⟩ = ⟨e.mem t, e.cost t⟩ := by
    unfold Eng.tds
    rw [List.getD_eq_getElem?_getD, List.getElem?_map, List.getElem?_range ht]
    rfl
  rw [hg] at h2 h3
  exact ⟨ad, h1, h2, h3 1 (by decide) (by decide)⟩
set_option maxHeartbeats 8000000 in
set_option maxRecDepth 100000 in
theorem there102 (x N c : Nat) (A : Option Addr) (hx : x < N) (hN : N ≤ 100) (w : World) : Calls Tryz.prog 102 #[.int .i64 (x : Int), .slice A N c] w fun e w' => e = .returned (.bool true) ∧ Drawn0 w w' := by
  have q1 : (0 ≤ (x : Int)) = True := eq_true (by omega)
  have q2 : ((x : Int) < (N : Int)) = True := eq_true (by omega)
  go_enter Tryz.func102, Tryz.ntmps102
  go_wp2
  go_ret
  exact ⟨rfl, by repeat (first | exact Drawn0.refl _ | apply Drawn0.step)⟩
set_option maxHeartbeats 8000000 in
set_option maxRecDepth 100000 in
theorem fits1_calls (x N c b1 b2 : Nat) (A : Option Addr) (room : Int) (mem cost : Nat → Int) (hx : x < N) (hN : N ≤ 100) (hm : mem x ≤ room) (w : World) (h1 : w.cell? ⟨b1, 0, none⟩ = some (.slice A N c)) (h2 : w.cell? ⟨b2, 0, none⟩ = some (.int .i64 room)) (ht : Tds w A N mem cost) :
    Calls Tryz.prog 136 #[.int .i64 (x : Int), .pointer (some ⟨b1, 0, none⟩), .pointer (some ⟨b2, 0, none⟩)] w fun e w' => e = .returned (.bool false) ∧ Drawn0 w w' := by
  obtain ⟨ad, rfl, d1, _⟩ := ht.at_ x hx
  obtain ⟨m, hmm⟩ : ∃ m, mem x = m := ⟨_, rfl⟩
  rw [hmm] at d1 hm
  have q0 : decide (room < m) = false := decide_eq_false (by omega)
  have q1 : (0 ≤ (x : Int)) = True := eq_true (by omega)
  have q2 : ((x : Int) < (N : Int)) = True := eq_true (by omega)
  clear ht hmm
  go_enter Tryz.func136, Tryz.ntmps136
  go_wp2
  go_quiet ((go_at_call 102; exact Calls.quiet_of ((there102 x N c (some ad) hx hN _).mono fun _ _ ⟨h1, h2⟩ => ⟨h1, h2.out⟩)))
  go_wp2
  go_ret
  exact ⟨rfl, by repeat (first | exact Drawn0.refl _ | apply Drawn0.step)⟩
set_option maxHeartbeats 8000000 in
set_option maxRecDepth 100000 in
theorem fits_idx (xs : List Nat) (n cp N c b1 b2 : Nat) (A B : Option Addr) (room : Int) (mem cost : Nat → Int) (hn : xs.length = n) (hn2 : n ≤ 100) (hN : N ≤ 100) (hall : ∀ x, x ∈ xs → x < N ∧ mem x ≤ room) (w : World) (hr : RI w B (nats xs)) (h1 : w.cell? ⟨b1, 0, none⟩ = some (.slice A N c)) (h2 : w.cell? ⟨b2, 0, none⟩ = some (.int .i64 room)) (ht : Tds w A N mem cost) :
    Calls Tryz.prog 100 #[.slice B n cp, .func (.func 136) #[] #[.pointer (some ⟨b1, 0, none⟩), .pointer (some ⟨b2, 0, none⟩)]] w fun e w' => e = .returned (.int .i64 (-1)) ∧ Drawn0 w w' := by
  have HR := Aside0.mk hr
  have HA := Aside0.mk hall
  have H1 := Aside0.mk h1
  have H2 := Aside0.mk h2
  have HN := Aside0.mk hn
  have HT := Aside0.mk ht
  clear hr hall h1 h2 hn ht
  go_enter Tryz.func100, Tryz.ntmps100
  go_wp2
  go_loopg [8] (n + 1) (fun kq v8 wr => ∃ i : Nat, v8 = .int .i64 (i : Int) ∧ Aside0 (kq + i = n + 1 ∧ i ≤ n ∧ Drawn0 w wr))
  case atStart => exact ⟨0, rfl, ⟨by omega, by omega, by repeat (first | exact Drawn0.refl _ | apply Drawn0.step)⟩⟩
  case round =>
    obtain ⟨i, rfl, hA⟩ := hrel
    obtain ⟨hk, hi, hd⟩ := hA.out
    have HD := Aside0.mk hd
    clear hA
    by_cases hlt : i < n
    · obtain ⟨ad, rfl, hcell⟩ := RI.at_ (ReadsOf.below HR.out HD.out.below) i (by rw [nats_len, HN.out]; exact hlt)
      obtain ⟨x, hx⟩ : ∃ x, xs.getD i 0 = x := ⟨_, rfl⟩
      have hxm : x ∈ xs := by
        rw [← hx, List.getD_eq_getElem?_getD, List.getElem?_eq_getElem (by rw [HN.out]; exact hlt)]
        exact List.getElem_mem _
      have hg : (nats xs).getD i 0 = (x : Int) := by
        unfold nats
        rw [← hx, List.getD_eq_getElem?_getD, List.getElem?_map, List.getElem?_eq_getElem (by rw [HN.out]; exact hlt), List.getD_eq_getElem?_getD, List.getElem?_eq_getElem (by rw [HN.out]; exact hlt)]
        rfl
      rw [hg] at hcell
      have HX := Aside0.mk (HA.out x hxm)
      have p1 : (0 ≤ (i : Int)) = True := eq_true (by omega)
      have p2 : ((i : Int) < (n : Int)) = True := eq_true (by omega)
      clear hx hd hxm hg
      go_wp2_with (go_at_call 136; (with_reducible refine (fits1_calls x N c b1 b2 A room mem cost HX.out.1 hN HX.out.2 _ ?q1 ?q2 ?q3).mono ?_); (case q1 => exact pw_cell_below HD.out.below H1.out); (case q2 => exact pw_cell_below HD.out.below H2.out); (case q3 => exact HT.out.below HD.out.below); rintro e w2 ⟨rfl, hd2⟩; have HD2 := Aside0.mk (drawnT HD.out hd2); clear hd2)
      go_roundg (gk - 1)
      case measure => omega
      case rel => exact ⟨i + 1, by rw [show ((i : Int) + 1) = ((i + 1 : Nat) : Int) by omega], ⟨by omega, by omega, HD2.out⟩⟩
    · have p2 : ((i : Int) < (n : Int)) = False := eq_false (by omega)
      go_wp2
      go_ret
      exact ⟨rfl, HD.out⟩
set_option maxHeartbeats 8000000 in
set_option maxRecDepth 100000 in
theorem fits_del (xs : List Nat) (n cp N c b1 b2 : Nat) (A B : Option Addr) (room : Int) (mem cost : Nat → Int) (hn : xs.length = n) (hn2 : n ≤ 100) (hN : N ≤ 100) (hall : ∀ x, x ∈ xs → x < N ∧ mem x ≤ room) (w : World) (hr : RI w B (nats xs)) (h1 : w.cell? ⟨b1, 0, none⟩ = some (.slice A N c)) (h2 : w.cell? ⟨b2, 0, none⟩ = some (.int .i64 room)) (ht : Tds w A N mem cost) :
    Calls Tryz.prog 137 #[.slice B n cp, .func (.func 136) #[] #[.pointer (some ⟨b1, 0, none⟩), .pointer (some ⟨b2, 0, none⟩)]] w fun e w' => e = .returned (.slice B n cp) ∧ Drawn0 w w' := by
  have HR := Aside0.mk hr
  have HA := Aside0.mk hall
  have H1 := Aside0.mk h1
  have H2 := Aside0.mk h2
  have HN := Aside0.mk hn
  have HT := Aside0.mk ht
  clear hr hall h1 h2 hn ht
  go_enter Tryz.func137, Tryz.ntmps137
  go_wp2_with (go_at_call 100; (with_reducible refine (fits_idx xs n cp N c b1 b2 A B room mem cost HN.out hn2 hN HA.out _ HR.out H1.out H2.out HT.out).mono ?_); rintro e w2 ⟨rfl, hd⟩; have HD := Aside0.mk hd; clear hd)
  go_ret
  exact ⟨rfl, HD.out⟩
set_option maxHeartbeats 8000000 in
set_option maxRecDepth 100000 in
theorem Fits_calls (xs : List Nat) (n cp N c : Nat) (A B : Option Addr) (room : Int) (mem cost : Nat → Int) (hn : xs.length = n) (hn2 : n ≤ 100) (hN : N ≤ 100) (hall : ∀ x, x ∈ xs → x < N ∧ mem x ≤ room) (w : World) (hr : RI w B (nats xs)) (ht : Tds w A N mem cost) :
    Calls Tryz.prog 94 #[.slice B n cp, .slice A N c, .int .i64 room] w fun e w' => ∃ A6 c6, e = .returned (.slice A6 n c6) ∧ RI w' A6 (nats xs) ∧ Below w.heap.size w w' := by
  have HR := Aside0.mk hr
  have HA := Aside0.mk hall
  have HN := Aside0.mk hn
  have HT := Aside0.mk ht
  obtain ⟨w1, hw1⟩ : ∃ w1, w1 = (w.alloc (.cells #[.slice A N c] 27)).alloc (.cells #[.int .i64 room] 3) := ⟨_, rfl⟩
  have hb1 : Below w.heap.size w w1 := hw1 ▸ below_alloc (below_alloc (Below.refl _ w) _) _
  have HB1 := Aside0.mk hb1
  have H1 := Aside0.mk (show w1.cell? ⟨w.heap.size, 0, none⟩ = some (.slice A N c) from hw1 ▸ pw_cell_below (below_alloc (Below.refl _ _) _) ((blk_cell (heap_alloc_new w _) 0).trans rfl))
  have H2 := Aside0.mk (show w1.cell? ⟨w.heap.size + 1, 0, none⟩ = some (.int .i64 room) from by
    have := (blk_cell (heap_alloc_new (w.alloc (.cells #[.slice A N c] 27)) (.cells #[.int .i64 room] 3)) 0).trans rfl
    rw [hw1]
    simpa using this)
  have HW1 := Aside0.mk hw1
  clear hr hall hn ht hb1 hw1
  go_enter Tryz.func94, Tryz.ntmps94
  go_upto_region 2 with (fail)
  rw [← HW1.out]
  go_wp2_with (first
    | (go_at_call 68; go_loud (refine (Clone_calls B n cp (nats xs) _ (ReadsOf.below HR.out HB1.out) (by rw [nats_len]; exact HN.out) (by omega)).mono ?_); rintro e w2 ⟨A6, c6, rfl, h3, _, h5⟩; have H3 := Aside0.mk h3; have HB2 := Aside0.mk h5; clear h3 h5)
    | (go_at_call 137; go_loud (refine (fits_del xs n c6 N c _ _ A A6 room mem cost HN.out hn2 hN HA.out _ H3.out (pw_cell_below HB2.out H1.out) (pw_cell_below HB2.out H2.out) (HT.out.below (below_step HB1.out HB2.out))).mono ?_); rintro e w3 ⟨rfl, hd⟩; have HB3 := Aside0.mk hd.below; clear hd))
  go_ret
  exact ⟨A6, c6, rfl, ReadsOf.below H3.out HB3.out, below_step HB1.out (below_step HB2.out HB3.out)⟩
end Go.Proofs.YtbpoapfkeinjnaaGreatDoor.Ld
