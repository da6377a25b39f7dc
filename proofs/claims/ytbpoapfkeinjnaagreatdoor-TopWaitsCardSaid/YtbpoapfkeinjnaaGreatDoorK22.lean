/- The engine of the yard and what it leans on, part 22. -/
import Derived.Test.YtbpoapfkeinjnaaGreatDoorK21
namespace Go.Proofs.YtbpoapfkeinjnaaGreatDoor.Ld
open Go.RowKit Go.Proofs.YtbpoapfkeinjnaaGreatDoorW.PrintWords Go.Proofs.YtbpoapfkeinjnaaGreatDoorW.PrintLast Go.Proofs.YtbpoapfkeinjnaaGreatDoorW.PrintMore
set_option linter.unusedVariables false
set_option linter.unusedSimpArgs false
set_option linter.unnecessarySimpa false
theorem Glb.mono {bm : Nat} {S T : Nat → Prop} {w : World} (h : Glb bm S w) (hs : ∀ k, T k → S k) : Glb bm T w := ⟨h.tz, h.vd, h.lt, fun e => h.n0 (hs _ e), fun e => h.n1 (hs _ e), fun e => h.nb (hs _ e)⟩
structure Opr where
  k : Int
  a : Int
  b : Int
  c : Int
  d : Int
def opO (o : Opr) : Obj := .cells #[.int .i64 o.k, .int .i64 o.a, .int .i64 o.b, .int .i64 o.c, .int .i64 o.d] 39
structure LD (bm : Nat) (S : Nat → Prop) (w : World) (g : Nat) (K : EK) (e : Eng) (S1 : Nat → Prop) (w1 : World) (B2 : Nat) (o : Opr) : Prop where
  l : Loc S w g K e S1 w1
  g : Glb bm S1 w1
  n : ¬ S1 (B2 + 1)
  b : w1.heap[B2 + 1]? = some rep0
  n2 : ¬ S1 B2
  b2 : w1.heap[B2]? = some (opO o)
  le : w.heap.size ≤ B2
section
variable {bm : Nat} {S S1 : Nat → Prop} {w w1 w2 : World} {g : Nat} {K K' : EK} {e e2 : Eng} {B2 : Nat} {o : Opr}
theorem LD.step (h : LD bm S w g K e S1 w1 B2 o) (t : To S1 w1 g K' e2 w2) : LD bm S w g K' e2 (fun j => up S1 w1 w2 j ∧ j < w2.heap.size) w2 B2 o :=
  ⟨h.l.step t, (h.g.to t.2).mono fun k hk => hk.1, (h.l.own t (blk_lt h.b) h.n).1, (h.l.own t (blk_lt h.b) h.n).2.trans h.b, (h.l.own t (blk_lt h.b2) h.n2).1, (h.l.own t (blk_lt h.b2) h.n2).2.trans h.b2, h.le⟩
theorem LD.below (h : LD bm S w g K e S1 w1 B2 o) (t : Below w1.heap.size w1 w2) : LD bm S w g K e S1 w2 B2 o := ⟨h.l.below t, h.g.below t, h.n, blk_below h.b t, h.n2, blk_below h.b2 t, h.le⟩
theorem LD.start (h : EngAt S w g K e) (hg : Glb bm S w) (o : Opr) : LD bm S w g K e (fun k => S k ∧ k < w.heap.size) ((w.alloc (opO o)).alloc rep0) w.heap.size o where
  l := (Loc.start h).below (below_alloc (below_alloc (Below.refl _ _) _) _)
  g := (hg.below (below_alloc (below_alloc (Below.refl _ _) _) _)).mono fun k hk => hk.1
  n := fun h => by have := h.2; omega
  b := by have := heap_alloc_new (w.alloc (opO o)) rep0; rw [size_alloc] at this; exact this
  n2 := fun h => by have := h.2; omega
  b2 := by
    have h1 := heap_alloc_new w (opO o)
    exact blk_below h1 (below_alloc (Below.refl _ _) _)
  le := Nat.le_refl _
theorem LD.cells (h : LD bm S w g K e S1 w1 B2 o) : w1.cell? ⟨B2, 0, none⟩ = some (.int .i64 o.k) ∧ w1.cell? ⟨B2, 1, none⟩ = some (.int .i64 o.a) ∧ w1.cell? ⟨B2, 2, none⟩ = some (.int .i64 o.b) ∧ w1.cell? ⟨B2, 3, none⟩ = some (.int .i64 o.c) ∧ w1.cell? ⟨B2, 4, none⟩ = some (.int .i64 o.d) :=
  ⟨(blk_cell h.b2 0).trans rfl, (blk_cell h.b2 1).trans rfl, (blk_cell h.b2 2).trans rfl, (blk_cell h.b2 3).trans rfl, (blk_cell h.b2 4).trans rfl⟩
theorem LD.done (h : LD bm S w g K e S1 w1 B2 o) (a b c d f : Value) {w' : World}
    (hw : w' = ((((w1.setCell ⟨B2 + 1, 0, none⟩ a).setCell ⟨B2 + 1, 1, none⟩ b).setCell ⟨B2 + 1, 2, none⟩ c).setCell ⟨B2 + 1, 3, none⟩ d).setCell ⟨B2 + 1, 4, none⟩ f) :
    (w'.cell? ⟨B2 + 1, 0, none⟩ = some a ∧ w'.cell? ⟨B2 + 1, 1, none⟩ = some b ∧ w'.cell? ⟨B2 + 1, 2, none⟩ = some c ∧ w'.cell? ⟨B2 + 1, 3, none⟩ = some d ∧ w'.cell? ⟨B2 + 1, 4, none⟩ = some f) ∧ To S w g K e w' := by
  obtain ⟨h1, hc⟩ := reply_put h.b _ _ _ _ _ hw
  have := h.le
  exact ⟨h1, (LocB.mk h.l h.n h.b).write hc (by omega)⟩
end
end Go.Proofs.YtbpoapfkeinjnaaGreatDoor.Ld
namespace Go.Proofs.YtbpoapfkeinjnaaGreatDoor.Ld
open Go.RowKit Go.Proofs.YtbpoapfkeinjnaaGreatDoorW.PrintWords Go.Proofs.YtbpoapfkeinjnaaGreatDoorW.PrintLast Go.Proofs.YtbpoapfkeinjnaaGreatDoorW.PrintMore
set_option linter.unusedVariables false
set_option linter.unusedSimpArgs false
set_option linter.unnecessarySimpa false
attribute [local go_sem] max2_int min2_int max_two min_two
def endE (e : Eng) (t : Nat) : Eng := { e with life := upf e.life t (stepSt (e.life t) 2 5) }
def Taken (Nd : Eng → Nat → Nat → Eng → Prop) (e : Eng) (t : Nat) (c d : Int) (e' : Eng) : Prop :=
  ∃ q, DelRel e.tm q t ∧
    ((c = 1 ∧ ∃ e2, Fols (endE (endsSt e 2 t q) t) e2 ∧ Over e2 e') ∨
     (c = 2 ∧ Missed (endsSt e 3 t q) t e') ∨
     (c = 3 ∧ ∃ y : Nat, d = (y : Int) ∧ y < e.N ∧ (((e.gr.T t).testBit y = true ∧ Missed (endsSt e 4 t q) t e') ∨ ((e.gr.T t).testBit y = false ∧ Nd (endsSt e 4 t q) t y e'))))
def AnsR (Nd : Eng → Nat → Nat → Eng → Prop) (e : Eng) (o : Opr) (rv : Value) (er : Int) (e' : Eng) : Prop :=
  (atB e.led o.a = false ∧ rv = reply 0 0 0 0 0 ∧ er = 6 ∧ e' = e) ∨
  (∃ t : Nat, atB e.led o.a = true ∧ atI e.led o.a = (t : Int) ∧ t < e.N ∧
    ((¬ ((e.life t).state = 2 ∧ o.b = (e.life t).epoch) ∧ rv = reply 0 0 0 0 0 ∧ er = 7 ∧ e' = e) ∨
     ((e.life t).state = 2 ∧ o.b = (e.life t).epoch ∧
      (((o.c < 1 ∨ 3 < o.c ∨ (o.c = 3 ∧ ¬ (0 ≤ o.d ∧ o.d < e.N))) ∧ rv = reply 0 0 0 0 0 ∧ er = 1 ∧ e' = e) ∨
       (Taken Nd e t o.c o.d e' ∧ rv = reply 0 (e'.life t).state (t : Int) 0 0 ∧ er = 0)))))
theorem Over.same {e e' : Eng} (h : Over e e') : e'.N = e.N ∧ e'.gr = e.gr := by
  induction h with
  | done e _ => exact ⟨rfl, rfl⟩
  | step r hr hf k ih =>
    refine ⟨ih.1.trans ?_, ih.2.trans ?_⟩ <;> (unfold leavesSt; split <;> rfl)
theorem Missed.sameN {e e' : Eng} {t : Nat} (k : Missed e t e') (h : EngInv e) (hs : Sync e) (ht : t < e.N) (h2 : (e.life t).state = 2) : e'.N = e.N := by
  rcases k with ⟨_, e2, hf, ho⟩ | ⟨_, q, _, rfl⟩
  · exact ho.same.1.trans (hf.inv (missedE_inv h ht h2) hs).2.2.1
  · rfl
theorem atB_id {e : Eng} (h : EngInv e) {k : Int} (hb : atB e.led k = true) : ∃ t : Nat, atI e.led k = (t : Int) ∧ t < e.N := by
  unfold atB at hb
  unfold atI
  split at hb
  · next hk => rw [if_pos hk]; exact h.ledid _ hb
  · cases hb
set_option maxHeartbeats 8000000 in
set_option maxRecDepth 100000 in
theorem answer_of (S : Nat → Prop) (bm g : Nat) (K : EK) (e : Eng) (o : Opr) (w : World) (H : EngAt S w g K e) (hi : EngInv e) (hs : Sync e) (hg : Glb bm S w) (hl : e.log.length ≤ 900000) (Nd : Eng → Nat → Nat → Eng → Prop)
    (hN : ∀ (w' : World) (S' : Nat → Prop) (e1 : Eng) (t y : Nat), o.c = 3 → EngAt S' w' g K e1 → EngInv e1 → Sync e1 → Glb bm S' w' → t < e1.N → y < e1.N → (e1.life t).state = 2 → (e1.gr.T t).testBit y = false → e1.log.length ≤ 1000000 →
      Calls Tryz.prog 65 #[.pointer (some ⟨g, 0, none⟩), .int .i64 (t : Int), .int .i64 (y : Int)] w' fun en w2 => en = .returned (.tuple #[]) ∧ ∃ e', Nd e1 t y e' ∧ To S' w' g K e' w2)
    (hN2 : ∀ e1 t y e', Nd e1 t y e' → e'.N = e1.N) :
    Calls Tryz.prog 22 #[.pointer (some ⟨g, 0, none⟩), .agg #[.int .i64 o.k, .int .i64 o.a, .int .i64 o.b, .int .i64 o.c, .int .i64 o.d]] w fun en w' => ∃ a b c d f er e', AnsR Nd e o (reply a b c d f) er e' ∧ en = .returned (.tuple #[.agg #[.int .i64 a, .int .i64 b, .int .i64 c, .int .i64 d, .int .i64 f], .int .i64 er]) ∧ To S w g K e' w' := by
  have HI := Aside0.mk hi
  have HSY := Aside0.mk hs
  have HNN := Aside0.mk hN
  have HN2 := Aside0.mk hN2
  obtain ⟨w0, hw0⟩ : ∃ w0, w0 = (w.alloc (opO o)).alloc rep0 := ⟨_, rfl⟩
  have HW0 := Aside0.mk (show w0 = (w.alloc (.cells #[.int .i64 o.k, .int .i64 o.a, .int .i64 o.b, .int .i64 o.c, .int .i64 o.d] 39)).alloc (.cells #[.int .i64 0, .int .i64 0, .int .i64 0, .int .i64 0, .int .i64 0] 34) from hw0)
  have HL0 := Aside0.mk (show LD bm S w g K e (fun k => S k ∧ k < w.heap.size) w0 w.heap.size o from hw0 ▸ LD.start H hg o)
  have hNb := hi.N
  clear H hi hs hg hw0 hN hN2
  go_enter Tryz.func22, Tryz.ntmps22
  go_upto_region 1 with (fail)
  rw [← HW0.out]
  obtain ⟨B, hB⟩ : ∃ B, w.heap.size = B := ⟨_, rfl⟩
  rw [hB] at HL0 ⊢
  obtain ⟨S1, hS1⟩ : ∃ S1 : Nat → Prop, (fun k => S k ∧ k < B) = S1 := ⟨_, rfl⟩
  rw [hS1] at HL0
  clear hS1 hB
  obtain ⟨k0, k1, k2, k3, k4⟩ := HL0.out.cells
  obtain ⟨c15, hat, _⟩ := HL0.out.l.at_.led
  have HAT := Aside0.mk hat
  obtain ⟨ai, hai⟩ : ∃ ai, atI e.led o.a = ai := ⟨_, rfl⟩
  obtain ⟨ab, hab⟩ : ∃ ab, atB e.led o.a = ab := ⟨_, rfl⟩
  have HAI := Aside0.mk hai
  have HAB := Aside0.mk hab
  obtain ⟨oa, hoa⟩ : ∃ oa, o.a = oa := ⟨_, rfl⟩
  obtain ⟨ob, hob⟩ : ∃ ob, o.b = ob := ⟨_, rfl⟩
  obtain ⟨oc, hoc⟩ : ∃ oc, o.c = oc := ⟨_, rfl⟩
  obtain ⟨od, hod⟩ : ∃ od, o.d = od := ⟨_, rfl⟩
  have HO := Aside0.mk (And.intro hoa (And.intro hob (And.intro hoc hod)))
  rw [hoa] at k1
  rw [hob] at k2
  rw [hoc] at k3
  rw [hod] at k4
  clear hat hai hab hoa hob hoc hod k0
  refine wp_region_any (by kernel_rfl) ?_
  obtain ⟨w1, hw1⟩ : ∃ w1 : World, w1 = { w0 with drawn := w0.drawn + 1 } := ⟨_, rfl⟩
  rw [← hw1]
  have hb1 : Below w0.heap.size w0 w1 := hw1 ▸ pw_below_drewN (Below.refl _ w0) 1
  have HB1 := Aside0.mk hb1
  obtain ⟨CL, hCL⟩ : ∃ CL : List (Addr × Value), CL = [(⟨g, 15, none⟩, .pointer (some ⟨K.gl, 0, none⟩)), (⟨B, 1, none⟩, .int .i64 oa)] := ⟨_, rfl⟩
  have m1 : ∀ x : CW CL, x.w.cell? ⟨g, 15, none⟩ = some (.pointer (some ⟨K.gl, 0, none⟩)) := fun x => x.h.get 0 (by rw [hCL]; rfl)
  have m2 : ∀ x : CW CL, x.w.cell? ⟨B, 1, none⟩ = some (.int .i64 oa) := fun x => x.h.get 1 (by rw [hCL]; rfl)
  have HS := Aside0.mk (show Cells CL w1 from hCL ▸ Cells.cons (pw_cell_below hb1 c15) (Cells.cons (pw_cell_below hb1 k1) (Cells.nil _)))
  have hne : Nonempty (CW CL) := ⟨⟨_, HS.out⟩⟩
  clear hCL hw1 hb1 c15 k1 k2 k3 k4
  refine Qt.wpAny_of_T (S := fun w' => ∃ x : CW CL, w' = x.w) (n := 11) _ _ _ _ ?_
  refine Qt.wpAnyT_batchL 6 (fun l => l.take 6) (List.range 6) rfl (fun _ _ d _ _ h => by cases d <;> exact h) ⟨CW.mk _ HS.out, rfl⟩ rfl (by kernel_rfl) (Qt.held_start (by kernel_rfl)) (by kernel_rfl) ?_
  simp only [List.take_succ_cons, List.take_zero, List.drop_succ_cons, List.drop_zero, List.cons_append, List.nil_append]
  repeat (go_big_quiet_step ((fail)))
  refine wpQuiet_nil ?_
  refine Qt.wpAnyT_one (i := 6) (by kernel_rfl) rfl ?_
  go_wp2_with (go_at_call 60; go_loud (refine (At_calls K.gl e.led HI.out.led.many oa _ (HAT.out.below HB1.out)).mono ?_); rintro en w2 ⟨rfl, hb2⟩; rw [show atI e.led oa = ai from HO.out.1 ▸ HAI.out, show atB e.led oa = ab from HO.out.1 ▸ HAB.out]; have HB2 := Aside0.mk hb2; clear hb2)
  first | refine ⟨⟨CW.mk _ (HS.out.below HB2.out), rfl⟩, ?_⟩ | refine ⟨fun _ => ⟨CW.mk _ (HS.out.below HB2.out), rfl⟩, ?_⟩
  refine Qt.wpAnyT_batchL 1 (fun l => (l.drop 7).take 4) [7, 8, 9, 10] rfl (fun _ _ d _ _ h => by cases d <;> exact h) ⟨CW.mk _ (HS.out.below HB2.out), rfl⟩ rfl (by kernel_rfl) (Qt.held_start (by kernel_rfl)) (by kernel_rfl) ?_
  simp only [List.take_succ_cons, List.take_zero, List.drop_succ_cons, List.drop_zero, List.cons_append, List.nil_append]
  repeat (go_big_quiet_step ((fail)))
  refine wpQuiet_nil ?_
  refine Qt.wpAnyT_tailL rfl (by kernel_rfl) ?_
  simp only [List.take_succ_cons, List.take_zero, List.drop_succ_cons, List.drop_zero, List.cons_append, List.nil_append]
  have HL2 := Aside0.mk (HL0.out.below (below_step HB1.out HB2.out))
  clear m1 m2 hne HS
  cases ab
  · obtain ⟨d0, d1, d2, d3, d4, fb⟩ := reply_cells HL2.out.b
    go_wp2
    obtain ⟨w3, hw3⟩ : ∃ w3, w3 = ((((w2.setCell ⟨B + 1, 0, none⟩ (.int .i64 0)).setCell ⟨B + 1, 1, none⟩ (.int .i64 0)).setCell ⟨B + 1, 2, none⟩ (.int .i64 0)).setCell ⟨B + 1, 3, none⟩ (.int .i64 0)).setCell ⟨B + 1, 4, none⟩ (.int .i64 0) := ⟨_, rfl⟩
    rw [← hw3]
    obtain ⟨⟨y0, y1, y2, y3, y4⟩, hto⟩ := HL2.out.done _ _ _ _ _ hw3
    refine bodyPost_ret (v := .tuple #[.agg #[.int .i64 0, .int .i64 0, .int .i64 0, .int .i64 0, .int .i64 0], .int .i64 6]) (by simp [results, Tryz.results22, go_sem, y0, y1, y2, y3, y4]) rfl ?_
    exact ⟨0, 0, 0, 0, 0, 6, _, .inl ⟨HAB.out, rfl, rfl, rfl⟩, rfl, hto⟩
  · obtain ⟨t, ht, htN⟩ := atB_id HI.out HAB.out
    have hait : ai = (t : Int) := HAI.out.symm.trans ht
    subst hait
    have HT := Aside0.mk ht
    have c11 := HL2.out.l.at_.ftasks
    obtain ⟨ct, _, cl, _, _, _⟩ := HL2.out.l.at_.ftask t htN
    have HLI := Aside0.mk (HL2.out.l.at_.flife t htN).1
    obtain ⟨_, _, k2, k3, k4⟩ := HL2.out.cells
    rw [HO.out.2.1] at k2
    have q1 : (0 ≤ (t : Int)) = True := eq_true (by omega)
    have q2 : ((t : Int) < (e.N : Int)) = True := eq_true (by omega)
    clear ht
    obtain ⟨rr, hrr⟩ : ∃ rr : Int, (if (e.life t).state = 2 ∧ ob = (e.life t).epoch then 0 else 7) = rr := ⟨_, rfl⟩
    have QR := Aside0.mk (fun n => Calls.quiet_of ((Right_calls (K.lp t) (e.life t) ob (w2.drewN n) HLI.out).mono fun en w' ⟨h1, h2⟩ => ⟨by rw [hrr] at h1; exact h1, h2.out⟩))
    have HR := Aside0.mk hrr
    clear hrr k3 k4
    go_upto_region 4 with (fail)
    by_cases hR : (e.life t).state = 2 ∧ ob = (e.life t).epoch
    · have hr0 : rr = 0 := HR.out.symm.trans (if_pos hR)
      subst hr0
      have HRP := Aside0.mk hR
      clear hR
      go_quiet ((go_at_call 61; exact QR.out _))
      have HL3 := Aside0.mk (HL2.out.below (pw_below_drewN (Below.refl _ w2) nq))
      obtain ⟨w3, hw3⟩ : ∃ w3, w3 = w2.drewN nq := ⟨_, rfl⟩
      rw [← hw3] at HL3 ⊢
      clear hw3 c11 ct cl k2 QR
      obtain ⟨_, _, _, k3, k4⟩ := HL3.out.cells
      rw [HO.out.2.2.1] at k3
      rw [HO.out.2.2.2] at k4
      by_cases hc1 : oc < 1
      · have p3 : (oc < 1) = True := eq_true hc1
        have HC := Aside0.mk hc1
        clear hc1
        obtain ⟨d0, d1, d2, d3, d4, fb⟩ := reply_cells HL3.out.b
        go_wp2
        obtain ⟨w4, hw4⟩ : ∃ w4, w4 = ((((w3.setCell ⟨B + 1, 0, none⟩ (.int .i64 0)).setCell ⟨B + 1, 1, none⟩ (.int .i64 0)).setCell ⟨B + 1, 2, none⟩ (.int .i64 0)).setCell ⟨B + 1, 3, none⟩ (.int .i64 0)).setCell ⟨B + 1, 4, none⟩ (.int .i64 0) := ⟨_, rfl⟩
        rw [← hw4]
        obtain ⟨⟨y0, y1, y2, y3, y4⟩, hto⟩ := HL3.out.done _ _ _ _ _ hw4
        refine bodyPost_ret (v := .tuple #[.agg #[.int .i64 0, .int .i64 0, .int .i64 0, .int .i64 0, .int .i64 0], .int .i64 1]) (by simp [results, Tryz.results22, go_sem, y0, y1, y2, y3, y4]) rfl ?_
        exact ⟨0, 0, 0, 0, 0, 1, _, .inr ⟨t, HAB.out, HT.out, htN, .inr ⟨HRP.out.1, by rw [HO.out.2.1]; exact HRP.out.2, .inl ⟨.inl (by rw [HO.out.2.2.1]; exact HC.out), rfl, rfl, rfl⟩⟩⟩, rfl, hto⟩
      · by_cases hc3 : 3 < oc
        · have p3 : (oc < 1) = False := eq_false hc1
          have p4 : (3 < oc) = True := eq_true hc3
          have HC := Aside0.mk hc3
          clear hc1 hc3
          obtain ⟨d0, d1, d2, d3, d4, fb⟩ := reply_cells HL3.out.b
          go_wp2
          obtain ⟨w4, hw4⟩ : ∃ w4, w4 = ((((w3.setCell ⟨B + 1, 0, none⟩ (.int .i64 0)).setCell ⟨B + 1, 1, none⟩ (.int .i64 0)).setCell ⟨B + 1, 2, none⟩ (.int .i64 0)).setCell ⟨B + 1, 3, none⟩ (.int .i64 0)).setCell ⟨B + 1, 4, none⟩ (.int .i64 0) := ⟨_, rfl⟩
          rw [← hw4]
          obtain ⟨⟨y0, y1, y2, y3, y4⟩, hto⟩ := HL3.out.done _ _ _ _ _ hw4
          refine bodyPost_ret (v := .tuple #[.agg #[.int .i64 0, .int .i64 0, .int .i64 0, .int .i64 0, .int .i64 0], .int .i64 1]) (by simp [results, Tryz.results22, go_sem, y0, y1, y2, y3, y4]) rfl ?_
          exact ⟨0, 0, 0, 0, 0, 1, _, .inr ⟨t, HAB.out, HT.out, htN, .inr ⟨HRP.out.1, by rw [HO.out.2.1]; exact HRP.out.2, .inl ⟨.inr (.inl (by rw [HO.out.2.2.1]; exact HC.out)), rfl, rfl, rfl⟩⟩⟩, rfl, hto⟩
        · rcases (show oc = 1 ∨ oc = 2 ∨ oc = 3 by omega) with rfl | rfl | rfl
          · clear hc1 hc3
            go_upto_block 1 with (first
              | (go_at_call 47; go_loud (refine (ends_calls _ g K e 2 t _ HL3.out.l.at_ HI.out htN (by omega)).mono ?_); rintro en w5 ⟨rfl, q, hq, hto⟩; have HQ := Aside0.mk hq; have HL5 := Aside0.mk (HL3.out.step hto); clear hq hto))
            have HI5 := Aside0.mk (endsSt_inv HI.out (kind := 2) (t := t) HQ.out)
            have HSY5 := Aside0.mk (show Sync (endsSt e 2 t q) from HSY.out)
            obtain ⟨_, _, _, k3', k4'⟩ := HL5.out.cells
            rw [HO.out.2.2.1] at k3'
            rw [HO.out.2.2.2] at k4'
            clear k3 k4
            have c11 := HL5.out.l.at_.ftasks
            obtain ⟨ct, _, cl, _, _, _⟩ := HL5.out.l.at_.ftask t htN
            obtain ⟨hli, hlb⟩ := HL5.out.l.at_.flife t htN
            have HLI5 := Aside0.mk hli
            have HLB5 := Aside0.mk hlb
            have q2 : ((t : Int) < ((endsSt e 2 t q).N : Int)) = True := eq_true (show (t : Int) < (e.N : Int) by omega)
            have HLO := Aside0.mk (HI.out.life t htN)
            clear hli hlb
            go_upto_region 15 with (first
              | (go_at_call 62; go_loud (refine (End_calls (K.lp t) ((endsSt e 2 t q).life t) HLO.out.st _ HLI5.out).mono ?_); rintro en w6 ⟨rfl, h3, k3⟩; have HL6 := Aside0.mk (HL5.out.step (HLB5.out _ _ h3 k3)); clear h3 k3)
              | (go_at_call 63; go_loud (refine (settle_calls _ bm g K (endE (endsSt e 2 t q) t) t _ HL6.out.l.at_ (HI5.out.setLife t _ ((HI5.out.life t htN).step 2 5 (by omega) (by omega))) HSY5.out HL6.out.g htN).mono ?_); rintro en w7 ⟨rfl, e2, e3, hf, ho, hto⟩; have HFO := Aside0.mk (And.intro hf ho); have HL7 := Aside0.mk (HL6.out.step hto); clear hf ho hto))
            have hN7 : e3.N = e.N := HFO.out.2.same.1.trans (HFO.out.1.inv (HI5.out.setLife t _ ((HI5.out.life t htN).step 2 5 (by omega) (by omega))) HSY5.out).2.2.1
            have c11 := HL7.out.l.at_.ftasks
            obtain ⟨ct, _, cl, _, _, _⟩ := HL7.out.l.at_.ftask t (by rw [hN7]; exact htN)
            have HLI8 := Aside0.mk (HL7.out.l.at_.flife t (by rw [hN7]; exact htN)).1
            rw [hN7] at c11
            obtain ⟨st, hst⟩ : ∃ st, (e3.life t).state = st := ⟨_, rfl⟩
            have HST := Aside0.mk hst
            clear hst hN7 k3' k4'
            go_wp2_with (go_at_call 30; go_loud (refine (State_calls (K.lp t) (e3.life t) _ HLI8.out).mono ?_); rintro en w8 ⟨rfl, hd⟩; rw [HST.out]; have HL8 := Aside0.mk (HL7.out.below hd.below); obtain ⟨d0, d1, d2, d3, d4, fb⟩ := reply_cells (HL7.out.below hd.below).b; clear hd)
            obtain ⟨w9, hw9⟩ : ∃ w9, w9 = ((((w8.setCell ⟨B + 1, 0, none⟩ (.int .i64 0)).setCell ⟨B + 1, 1, none⟩ (.int .i64 st)).setCell ⟨B + 1, 2, none⟩ (.int .i64 (t : Int))).setCell ⟨B + 1, 3, none⟩ (.int .i64 0)).setCell ⟨B + 1, 4, none⟩ (.int .i64 0) := ⟨_, rfl⟩
            rw [← hw9]
            obtain ⟨⟨y0, y1, y2, y3, y4⟩, hto⟩ := HL8.out.done _ _ _ _ _ hw9
            refine bodyPost_ret (v := .tuple #[.agg #[.int .i64 0, .int .i64 st, .int .i64 (t : Int), .int .i64 0, .int .i64 0], .int .i64 0]) (by simp [results, Tryz.results22, go_sem, y0, y1, y2, y3, y4]) rfl ?_
            exact ⟨0, st, (t : Int), 0, 0, 0, _, .inr ⟨t, HAB.out, HT.out, htN, .inr ⟨HRP.out.1, by rw [HO.out.2.1]; exact HRP.out.2, .inr ⟨⟨q, HQ.out, .inl ⟨HO.out.2.2.1, e2, HFO.out⟩⟩, by rw [HST.out], rfl⟩⟩⟩, rfl, hto⟩
          · clear hc1 hc3
            go_upto_block 1 with (first
              | (go_at_call 47; go_loud (refine (ends_calls _ g K e 3 t _ HL3.out.l.at_ HI.out htN (by omega)).mono ?_); rintro en w5 ⟨rfl, q, hq, hto⟩; have HQ := Aside0.mk hq; have HL5 := Aside0.mk (HL3.out.step hto); clear hq hto))
            have HI5 := Aside0.mk (endsSt_inv HI.out (kind := 3) (t := t) HQ.out)
            have HSY5 := Aside0.mk (show Sync (endsSt e 3 t q) from HSY.out)
            obtain ⟨_, _, _, k3', k4'⟩ := HL5.out.cells
            rw [HO.out.2.2.1] at k3'
            rw [HO.out.2.2.2] at k4'
            go_upto_region 13 with (fail)
            go_quiet ((fail))
            have HL6 := Aside0.mk (HL5.out.below (pw_below_drewN (Below.refl _ w5) nq))
            obtain ⟨w6, hw6⟩ : ∃ w6, w6 = w5.drewN nq := ⟨_, rfl⟩
            rw [← hw6] at HL6 ⊢
            clear hw6
            go_upto_region 15 with (go_at_call 48; go_loud (refine (miss_calls _ bm g K (endsSt e 3 t q) t _ HL6.out.l.at_ HI5.out HSY5.out HL6.out.g htN HRP.out.1).mono ?_); rintro en w7 ⟨rfl, e3, hms, hto⟩; have HMS := Aside0.mk hms; have HL7 := Aside0.mk (HL6.out.step hto); clear hms hto)
            have hN7 : e3.N = e.N := HMS.out.sameN HI5.out HSY5.out htN HRP.out.1
            have c11 := HL7.out.l.at_.ftasks
            obtain ⟨ct, _, cl, _, _, _⟩ := HL7.out.l.at_.ftask t (by rw [hN7]; exact htN)
            have HLI8 := Aside0.mk (HL7.out.l.at_.flife t (by rw [hN7]; exact htN)).1
            rw [hN7] at c11
            obtain ⟨st, hst⟩ : ∃ st, (e3.life t).state = st := ⟨_, rfl⟩
            have HST := Aside0.mk hst
            clear hst hN7 k3' k4'
            go_wp2_with (go_at_call 30; go_loud (refine (State_calls (K.lp t) (e3.life t) _ HLI8.out).mono ?_); rintro en w8 ⟨rfl, hd⟩; rw [HST.out]; have HL8 := Aside0.mk (HL7.out.below hd.below); obtain ⟨d0, d1, d2, d3, d4, fb⟩ := reply_cells (HL7.out.below hd.below).b; clear hd)
            obtain ⟨w9, hw9⟩ : ∃ w9, w9 = ((((w8.setCell ⟨B + 1, 0, none⟩ (.int .i64 0)).setCell ⟨B + 1, 1, none⟩ (.int .i64 st)).setCell ⟨B + 1, 2, none⟩ (.int .i64 (t : Int))).setCell ⟨B + 1, 3, none⟩ (.int .i64 0)).setCell ⟨B + 1, 4, none⟩ (.int .i64 0) := ⟨_, rfl⟩
            rw [← hw9]
            obtain ⟨⟨y0, y1, y2, y3, y4⟩, hto⟩ := HL8.out.done _ _ _ _ _ hw9
            refine bodyPost_ret (v := .tuple #[.agg #[.int .i64 0, .int .i64 st, .int .i64 (t : Int), .int .i64 0, .int .i64 0], .int .i64 0]) (by simp [results, Tryz.results22, go_sem, y0, y1, y2, y3, y4]) rfl ?_
            exact ⟨0, st, (t : Int), 0, 0, 0, _, .inr ⟨t, HAB.out, HT.out, htN, .inr ⟨HRP.out.1, by rw [HO.out.2.1]; exact HRP.out.2, .inr ⟨⟨q, HQ.out, .inr (.inl ⟨HO.out.2.2.1, HMS.out⟩)⟩, by rw [HST.out], rfl⟩⟩⟩, rfl, hto⟩
          · by_cases hd : 0 ≤ od ∧ od < e.N
            · obtain ⟨y, rfl⟩ := Int.eq_ofNat_of_zero_le hd.1
              have hy : y < e.N := by omega
              have hdd : decide (0 ≤ (y : Int) ∧ (y : Int) < e.N) = true := decide_eq_true hd
              have HDD := Aside0.mk hdd
              clear hd hdd hc1 hc3
              go_upto_region 8 with (go_at_call 29; go_loud (refine (there29 S1 g K e (y : Int) _ HL3.out.l.at_ hNb.2).mono ?_); rintro en w4 ⟨rfl, hd⟩; rw [HDD.out]; have HL4 := Aside0.mk (HL3.out.below hd.below); have k3 := (HL3.out.below hd.below).cells.2.2.2.1; rw [HO.out.2.2.1] at k3; clear hd)
              go_upto_block 1 with (first
                | (go_at_call 47; go_loud (refine (ends_calls _ g K e 4 t _ HL4.out.l.at_ HI.out htN (by omega)).mono ?_); rintro en w5 ⟨rfl, q, hq, hto⟩; have HQ := Aside0.mk hq; have HL5 := Aside0.mk (HL4.out.step hto); clear hq hto))
              have HI5 := Aside0.mk (endsSt_inv HI.out (kind := 4) (t := t) HQ.out)
              have HSY5 := Aside0.mk (show Sync (endsSt e 4 t q) from HSY.out)
              obtain ⟨_, _, _, k3', k4'⟩ := HL5.out.cells
              rw [HO.out.2.2.1] at k3'
              rw [HO.out.2.2.2] at k4'
              obtain ⟨c13, S3, hgr, _, _⟩ := HL5.out.l.at_.gr
              have HGR := Aside0.mk (show GrAt S3 w5 K.gg e.gr from hgr)
              clear hgr
              go_upto_region 13 with (fail)
              refine Qt.wp_region_quiet_tail 11 (by kernel_rfl) (by kernel_rfl) ?_
              simp only [List.take_succ_cons, List.take_zero, List.drop_succ_cons, List.drop_zero]
              repeat (go_big_quiet_step ((fail)))
              refine wpQuiet_nil ?_
              intro w6 hw6
              have HB6 := Aside0.mk (show Below w5.heap.size w5 w6 from by obtain ⟨m, rfl⟩ := hw6; exact pw_below_drewN (Below.refl _ _) m)
              clear hw6
              obtain ⟨bit, hbit⟩ : ∃ bit, (e.gr.T t).testBit y = bit := ⟨_, rfl⟩
              have HBIT := Aside0.mk hbit
              clear hbit c13
              cases bit
              · go_upto_region 15 with (first
                  | (go_at_call 64; go_loud (refine (GHas_calls S3 K.gg e.gr t y _ (HGR.out.keep (Keep.of_below HB6.out)) HI.out.gr (by rw [HI.out.gN]; exact htN) (by rw [HI.out.gN]; exact hy)).mono ?_); rintro en w7 ⟨rfl, hb7⟩; rw [HBIT.out]; have HL7 := Aside0.mk (HL5.out.below (below_step HB6.out hb7)); obtain ⟨_, _, _, k3'', k4''⟩ := (HL5.out.below (below_step HB6.out hb7)).cells; rw [HO.out.2.2.2] at k4''; clear hb7)
                  | (go_at_call 65; go_loud (refine (HNN.out _ _ (endsSt e 4 t q) t y HO.out.2.2.1 HL7.out.l.at_ HI5.out HSY5.out HL7.out.g htN hy HRP.out.1 HBIT.out ?q9).mono ?_); (case q9 => show (e.log ++ [_]).length ≤ 1000000; rw [List.length_append]; simp only [List.length_singleton]; omega); rintro en w8 ⟨rfl, e3, hms, hto⟩; have HMS := Aside0.mk hms; have HL9 := Aside0.mk (HL7.out.step hto); clear hms hto))
                have k3' := HI5
                have k4' := HI5
                have hN7 : e3.N = e.N := (show e3.N = (endsSt e 4 t q).N from HN2.out _ _ _ _ HMS.out)
                have c11 := HL9.out.l.at_.ftasks
                obtain ⟨ct, _, cl, _, _, _⟩ := HL9.out.l.at_.ftask t (by rw [hN7]; exact htN)
                have HLI8 := Aside0.mk (HL9.out.l.at_.flife t (by rw [hN7]; exact htN)).1
                rw [hN7] at c11
                obtain ⟨st, hst⟩ : ∃ st, (e3.life t).state = st := ⟨_, rfl⟩
                have HST := Aside0.mk hst
                clear hst hN7 k3' k4'
                go_wp2_with (go_at_call 30; go_loud (refine (State_calls (K.lp t) (e3.life t) _ HLI8.out).mono ?_); rintro en w10 ⟨rfl, hd⟩; rw [HST.out]; have HL10 := Aside0.mk (HL9.out.below hd.below); obtain ⟨d0, d1, d2, d3, d4, fb⟩ := reply_cells (HL9.out.below hd.below).b; clear hd)
                obtain ⟨w9, hw9⟩ : ∃ w9, w9 = ((((w10.setCell ⟨B + 1, 0, none⟩ (.int .i64 0)).setCell ⟨B + 1, 1, none⟩ (.int .i64 st)).setCell ⟨B + 1, 2, none⟩ (.int .i64 (t : Int))).setCell ⟨B + 1, 3, none⟩ (.int .i64 0)).setCell ⟨B + 1, 4, none⟩ (.int .i64 0) := ⟨_, rfl⟩
                rw [← hw9]
                obtain ⟨⟨y0, y1, y2, y3, y4⟩, hto⟩ := HL10.out.done _ _ _ _ _ hw9
                refine bodyPost_ret (v := .tuple #[.agg #[.int .i64 0, .int .i64 st, .int .i64 (t : Int), .int .i64 0, .int .i64 0], .int .i64 0]) (by simp [results, Tryz.results22, go_sem, y0, y1, y2, y3, y4]) rfl ?_
                exact ⟨0, st, (t : Int), 0, 0, 0, _, .inr ⟨t, HAB.out, HT.out, htN, .inr ⟨HRP.out.1, by rw [HO.out.2.1]; exact HRP.out.2, .inr ⟨⟨q, HQ.out, .inr (.inr ⟨HO.out.2.2.1, y, HO.out.2.2.2, hy, .inr ⟨HBIT.out, HMS.out⟩⟩)⟩, by rw [HST.out], rfl⟩⟩⟩, rfl, hto⟩
              · go_upto_region 15 with (first
                  | (go_at_call 64; go_loud (refine (GHas_calls S3 K.gg e.gr t y _ (HGR.out.keep (Keep.of_below HB6.out)) HI.out.gr (by rw [HI.out.gN]; exact htN) (by rw [HI.out.gN]; exact hy)).mono ?_); rintro en w7 ⟨rfl, hb7⟩; rw [HBIT.out]; have HL7 := Aside0.mk (HL5.out.below (below_step HB6.out hb7)); clear hb7)
                  | (go_at_call 48; go_loud (refine (miss_calls _ bm g K (endsSt e 4 t q) t _ HL7.out.l.at_ HI5.out HSY5.out HL7.out.g htN HRP.out.1).mono ?_); rintro en w8 ⟨rfl, e3, hms, hto⟩; have HMS := Aside0.mk hms; have HL9 := Aside0.mk (HL7.out.step hto); clear hms hto))
                have k3' := HI5
                have k4' := HI5
                have hN7 : e3.N = e.N := HMS.out.sameN HI5.out HSY5.out htN HRP.out.1
                have c11 := HL9.out.l.at_.ftasks
                obtain ⟨ct, _, cl, _, _, _⟩ := HL9.out.l.at_.ftask t (by rw [hN7]; exact htN)
                have HLI8 := Aside0.mk (HL9.out.l.at_.flife t (by rw [hN7]; exact htN)).1
                rw [hN7] at c11
                obtain ⟨st, hst⟩ : ∃ st, (e3.life t).state = st := ⟨_, rfl⟩
                have HST := Aside0.mk hst
                clear hst hN7 k3' k4'
                go_wp2_with (go_at_call 30; go_loud (refine (State_calls (K.lp t) (e3.life t) _ HLI8.out).mono ?_); rintro en w10 ⟨rfl, hd⟩; rw [HST.out]; have HL10 := Aside0.mk (HL9.out.below hd.below); obtain ⟨d0, d1, d2, d3, d4, fb⟩ := reply_cells (HL9.out.below hd.below).b; clear hd)
                obtain ⟨w9, hw9⟩ : ∃ w9, w9 = ((((w10.setCell ⟨B + 1, 0, none⟩ (.int .i64 0)).setCell ⟨B + 1, 1, none⟩ (.int .i64 st)).setCell ⟨B + 1, 2, none⟩ (.int .i64 (t : Int))).setCell ⟨B + 1, 3, none⟩ (.int .i64 0)).setCell ⟨B + 1, 4, none⟩ (.int .i64 0) := ⟨_, rfl⟩
                rw [← hw9]
                obtain ⟨⟨y0, y1, y2, y3, y4⟩, hto⟩ := HL10.out.done _ _ _ _ _ hw9
                refine bodyPost_ret (v := .tuple #[.agg #[.int .i64 0, .int .i64 st, .int .i64 (t : Int), .int .i64 0, .int .i64 0], .int .i64 0]) (by simp [results, Tryz.results22, go_sem, y0, y1, y2, y3, y4]) rfl ?_
                exact ⟨0, st, (t : Int), 0, 0, 0, _, .inr ⟨t, HAB.out, HT.out, htN, .inr ⟨HRP.out.1, by rw [HO.out.2.1]; exact HRP.out.2, .inr ⟨⟨q, HQ.out, .inr (.inr ⟨HO.out.2.2.1, y, HO.out.2.2.2, hy, .inl ⟨HBIT.out, HMS.out⟩⟩)⟩, by rw [HST.out], rfl⟩⟩⟩, rfl, hto⟩
            · have hdd : decide (0 ≤ od ∧ od < e.N) = false := decide_eq_false hd
              have HDD := Aside0.mk hdd
              have HDN := Aside0.mk hd
              clear hd hdd hc1 hc3
              go_wp2_with (go_at_call 29; go_loud (refine (there29 S1 g K e od _ HL3.out.l.at_ hNb.2).mono ?_); rintro en w4 ⟨rfl, hd⟩; rw [HDD.out]; have HL4 := Aside0.mk (HL3.out.below hd.below); obtain ⟨d0, d1, d2, d3, d4, fb⟩ := reply_cells (HL3.out.below hd.below).b; clear hd)
              obtain ⟨w5, hw5⟩ : ∃ w5, w5 = ((((w4.setCell ⟨B + 1, 0, none⟩ (.int .i64 0)).setCell ⟨B + 1, 1, none⟩ (.int .i64 0)).setCell ⟨B + 1, 2, none⟩ (.int .i64 0)).setCell ⟨B + 1, 3, none⟩ (.int .i64 0)).setCell ⟨B + 1, 4, none⟩ (.int .i64 0) := ⟨_, rfl⟩
              rw [← hw5]
              obtain ⟨⟨y0, y1, y2, y3, y4⟩, hto⟩ := HL4.out.done _ _ _ _ _ hw5
              refine bodyPost_ret (v := .tuple #[.agg #[.int .i64 0, .int .i64 0, .int .i64 0, .int .i64 0, .int .i64 0], .int .i64 1]) (by simp [results, Tryz.results22, go_sem, y0, y1, y2, y3, y4]) rfl ?_
              exact ⟨0, 0, 0, 0, 0, 1, _, .inr ⟨t, HAB.out, HT.out, htN, .inr ⟨HRP.out.1, by rw [HO.out.2.1]; exact HRP.out.2, .inl ⟨.inr (.inr ⟨HO.out.2.2.1, by rw [HO.out.2.2.2]; exact HDN.out⟩), rfl, rfl, rfl⟩⟩⟩, rfl, hto⟩
    · have hr7 : rr = 7 := HR.out.symm.trans (if_neg hR)
      subst hr7
      have HRN := Aside0.mk hR
      clear hR
      go_quiet ((go_at_call 61; exact QR.out _))
      have HL3 := Aside0.mk (HL2.out.below (pw_below_drewN (Below.refl _ w2) nq))
      obtain ⟨w3, hw3⟩ : ∃ w3, w3 = w2.drewN nq := ⟨_, rfl⟩
      rw [← hw3] at HL3 ⊢
      clear hw3 c11 ct cl k2 QR
      obtain ⟨d0, d1, d2, d3, d4, fb⟩ := reply_cells HL3.out.b
      go_wp2
      obtain ⟨w4, hw4⟩ : ∃ w4, w4 = ((((w3.setCell ⟨B + 1, 0, none⟩ (.int .i64 0)).setCell ⟨B + 1, 1, none⟩ (.int .i64 0)).setCell ⟨B + 1, 2, none⟩ (.int .i64 0)).setCell ⟨B + 1, 3, none⟩ (.int .i64 0)).setCell ⟨B + 1, 4, none⟩ (.int .i64 0) := ⟨_, rfl⟩
      rw [← hw4]
      obtain ⟨⟨y0, y1, y2, y3, y4⟩, hto⟩ := HL3.out.done _ _ _ _ _ hw4
      refine bodyPost_ret (v := .tuple #[.agg #[.int .i64 0, .int .i64 0, .int .i64 0, .int .i64 0, .int .i64 0], .int .i64 7]) (by simp [results, Tryz.results22, go_sem, y0, y1, y2, y3, y4]) rfl ?_
      exact ⟨0, 0, 0, 0, 0, 7, _, .inr ⟨t, HAB.out, HT.out, htN, .inl ⟨by rw [HO.out.2.1]; exact HRN.out, rfl, rfl, rfl⟩⟩, rfl, hto⟩
end Go.Proofs.YtbpoapfkeinjnaaGreatDoor.Ld
namespace Go.Proofs.YtbpoapfkeinjnaaGreatDoor.Ld
open Go.RowKit Go.Proofs.YtbpoapfkeinjnaaGreatDoorW.PrintWords Go.Proofs.YtbpoapfkeinjnaaGreatDoorW.PrintLast Go.Proofs.YtbpoapfkeinjnaaGreatDoorW.PrintMore
set_option linter.unusedVariables false
set_option linter.unusedSimpArgs false
set_option linter.unnecessarySimpa false
attribute [local go_sem] max2_int min2_int max_two min_two
theorem EngAt.tm_same {S : Nat → Prop} {w : World} {g : Nat} {K : EK} {e : Eng} (h : EngAt S w g K e) : ∃ S1 : Nat → Prop, TmAt S1 w K.gm e.tm ∧ (∀ k, S1 k → k < w.heap.size) ∧ ∀ w' q, TmAt S1 w' K.gm q → Chg S1 w w' → EngAt S w' g K { e with tm := q } ∧ Chg S w w' := by
  obtain ⟨ρ, vr, vl, cv, h⟩ := h
  have hl := h.p .tm
  have hsub : ∀ k, R ρ .tm k → S k := fun k hk => h.sub k (by have hk' : ρ k = _ := hk; rw [hk']; exact fun e => by cases e)
  refine ⟨R ρ .tm, hl, fun k hk => h.lt k (by have hk' : ρ k = _ := hk; rw [hk']; exact fun e => by cases e), fun w' q h1 hc => ⟨⟨ρ, vr, vl, cv, ?_⟩, hc.mono hsub⟩⟩
  have hs := h.step (e' := { e with tm := q }) (V' := K.V e.N vr vl cv) (w' := w') ρ (fun r => r = .tm) (fun _ _ => rfl) (fun k hk => Nat.lt_of_lt_of_le (h.lt k hk) hc.size) hc (fun r hr hp => by
    cases r with
    | tm => exact absurd rfl hr
    | _ => exact hp) (fun r hr => by subst hr; exact h1)
  exact ⟨hs.p, hs.lt, h.sub⟩
theorem LD.same {bm : Nat} {S S1 : Nat → Prop} {w w1 w2 : World} {g : Nat} {K K' : EK} {e e2 : Eng} {B2 : Nat} {o : Opr} (h : LD bm S w g K e S1 w1 B2 o) (t : EngAt S1 w2 g K' e2) (hc : Chg S1 w1 w2) : LD bm S w g K' e2 S1 w2 B2 o :=
  ⟨⟨t, fun k hk => Nat.lt_of_lt_of_le (h.l.lt k hk) hc.size, h.l.sub, h.l.chg.then_own hc h.l.sub⟩, (h.g.to hc).mono fun k hk => .inl hk, h.n, (hc.block _ (blk_lt h.b) h.n).trans h.b, h.n2, (hc.block _ (blk_lt h.b2) h.n2).trans h.b2, h.le⟩
def OwnI (S1 : Nat → Prop) (w1 : World) (A : Option Addr) (xs : List Int) : Prop := RI w1 A xs ∧ ∀ a, A = some a → ¬ S1 a.block ∧ a.block < w1.heap.size
theorem OwnI.step {bm : Nat} {S S1 : Nat → Prop} {w w1 w2 : World} {g : Nat} {K K' : EK} {e e2 : Eng} {B2 : Nat} {o : Opr} {A : Option Addr} {xs : List Int} (h : OwnI S1 w1 A xs) (hl : LD bm S w g K e S1 w1 B2 o) (t : To S1 w1 g K' e2 w2) : OwnI (fun j => up S1 w1 w2 j ∧ j < w2.heap.size) w2 A xs :=
  ⟨RI.same h.1 fun a ha _ => (hl.l.own t (h.2 a ha).2 (h.2 a ha).1).2, fun a ha => ⟨(hl.l.own t (h.2 a ha).2 (h.2 a ha).1).1, Nat.lt_of_lt_of_le (h.2 a ha).2 t.2.size⟩⟩
theorem OwnI.below {S1 : Nat → Prop} {w1 w2 : World} {A : Option Addr} {xs : List Int} (h : OwnI S1 w1 A xs) (hb : Below w1.heap.size w1 w2) : OwnI S1 w2 A xs := ⟨ReadsOf.below h.1 hb, fun a ha => ⟨(h.2 a ha).1, Nat.lt_of_lt_of_le (h.2 a ha).2 hb.size⟩⟩
def DueOk (p q : Hp) (ids : List Nat) (now : Int) : Prop := (∀ x, x ∈ ids → p.keys.getD x 0 ≤ now) ∧ (q.l.length = 0 ∨ ∃ x, x < p.at_.length ∧ q.on x ∧ now < p.keys.getD x 0)
def retryE (e : Eng) (u : Nat) : Eng := { e with life := upf e.life u (stepSt (e.life u) 4 1) }
def TickOne (e : Eng) (u : Nat) (e' : Eng) : Prop :=
  ((e.life u).state = 2 ∧ ∃ q, DelRel e.tm q u ∧ Missed (endsSt e 5 u q) u e') ∨ ((e.life u).state = 4 ∧ e' = retryE e u) ∨ ((e.life u).state ≠ 2 ∧ (e.life u).state ≠ 4 ∧ e' = e)
inductive TickFold : Eng → List Nat → Eng → Prop
  | nil (e : Eng) : TickFold e [] e
  | snoc {e e1 e2 : Eng} {us : List Nat} {u : Nat} (h : TickFold e us e1) (k : TickOne e1 u e2) : TickFold e (us ++ [u]) e2
def TickR (e : Eng) (rv : Value) (er : Int) (e' : Eng) : Prop :=
  (e.now = 1099511627776 ∧ rv = reply 0 0 0 0 0 ∧ er = 10 ∧ e' = e) ∨
  (e.now ≠ 1099511627776 ∧ rv = reply 0 0 0 0 0 ∧ er = 0 ∧ ∃ ids q, Left e.tm q ids ∧ DueOk e.tm q ids (e.now + 1) ∧ TickFold { e with now := e.now + 1, tm := q } ids e')
structure Sm (e e' : Eng) : Prop where
  N : e'.N = e.N
  gr : e'.gr = e.gr
  log : e'.log = e.log
  led : e'.led = e.led
  begun : e'.begun = e.begun
  now : e'.now = e.now
  c : e'.c = e.c
  mem : e'.mem = e.mem
  cost : e'.cost = e.cost
  nr : e'.nr = e.nr
theorem Sm.refl (e : Eng) : Sm e e := ⟨rfl, rfl, rfl, rfl, rfl, rfl, rfl, rfl, rfl, rfl⟩
theorem Sm.trans {a b c : Eng} (h : Sm a b) (k : Sm b c) : Sm a c := ⟨k.N.trans h.N, k.gr.trans h.gr, k.log.trans h.log, k.led.trans h.led, k.begun.trans h.begun, k.now.trans h.now, k.c.trans h.c, k.mem.trans h.mem, k.cost.trans h.cost, k.nr.trans h.nr⟩
theorem Over.sm {e e' : Eng} (h : Over e e') : Sm e e' := by
  induction h with
  | done e _ => exact Sm.refl e
  | step r hr hf k ih =>
    refine Sm.trans ?_ ih
    unfold leavesSt
    split <;> exact ⟨rfl, rfl, rfl, rfl, rfl, rfl, rfl, rfl, rfl, rfl⟩
theorem Fols.sm {e e' : Eng} (h : Fols e e') : Sm e e' := by
  induction h with
  | refl => exact Sm.refl _
  | step h k ih =>
    obtain ⟨u, t, hu, ht, _, _, rfl⟩ := k
    refine Sm.trans ih ?_
    unfold followSt
    repeat' split
    all_goals exact ⟨rfl, rfl, rfl, rfl, rfl, rfl, rfl, rfl, rfl, rfl⟩
theorem Missed.sm {e e' : Eng} {t : Nat} (h : Missed e t e') : Sm e e' := by
  rcases h with ⟨_, e2, hf, ho⟩ | ⟨_, q, _, rfl⟩
  · exact Sm.trans (show Sm e (missedE e t) from ⟨rfl, rfl, rfl, rfl, rfl, rfl, rfl, rfl, rfl, rfl⟩) (hf.sm.trans ho.sm)
  · exact ⟨rfl, rfl, rfl, rfl, rfl, rfl, rfl, rfl, rfl, rfl⟩
end Go.Proofs.YtbpoapfkeinjnaaGreatDoor.Ld
