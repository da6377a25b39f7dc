/- The engine of the yard and what it leans on, part 26. -/
import Derived.Test.YtbpoapfkeinjnaaGreatDoorK25
namespace Go.Proofs.YtbpoapfkeinjnaaGreatDoor.Ld
open Go.RowKit Go.Proofs.YtbpoapfkeinjnaaGreatDoorW.PrintWords Go.Proofs.YtbpoapfkeinjnaaGreatDoorW.PrintLast Go.Proofs.YtbpoapfkeinjnaaGreatDoorW.PrintMore
set_option linter.unusedVariables false
set_option linter.unusedSimpArgs false
set_option linter.unnecessarySimpa false
attribute [local go_sem] max2_int min2_int max_two min_two
def eng0 (c : Cf) (N : Nat) (mem cost : Nat → Int) : Eng where
  c := c
  N := N
  mem := mem
  cost := cost
  life := fun _ => lifeNew c.tries c.preempts
  waits := fun _ => -1
  since := fun _ => 0
  nr := 0
  rq := fun _ => ⟨0, 0, 0, 0⟩
  gr := grNew N
  tm := hpNew N
  led := fresh c.budget c.slots
  ad := admNew c.active c.queue
  tu := turNew c.quantum
  now := 0
  begun := 0
  log := []
def engI (c : Cf) (N : Nat) (mem cost : Nat → Int) (i : Nat) : Eng := { eng0 c N mem cost with N := i }
theorem engI_all (c : Cf) (N : Nat) (mem cost : Nat → Int) : engI c N mem cost N = eng0 c N mem cost := rfl
def tdsF (N : Nat) (mem cost : Nat → Int) : List Td := (List.range N).map fun i => ⟨mem i, cost i⟩
theorem flat_td1 (l : List Td) : ∀ u, u ∈ flat encTd l → u.oneCell' = true := fun u hu => by
  unfold flat at hu
  obtain ⟨y, hy, hu⟩ := List.mem_flatten.1 hu
  obtain ⟨x, _, rfl⟩ := List.mem_map.1 hy
  have hx := hu
  unfold encTd at hx
  simp only [List.mem_cons, List.not_mem_nil, or_false] at hx
  rcases hx with rfl | rfl <;> rfl
theorem cTask_ok (m c : Int) (h : 1 ≤ m ∧ m ≤ 1048576 ∧ 1 ≤ c ∧ c ≤ 1048576) (w : World) : Calls Tryz.prog 39 #[.agg #[.int .i64 m, .int .i64 c]] w fun e w' => e = .returned (.int .i64 0) ∧ Below w.heap.size w w' :=
  (cTask_calls m c w).mono fun e w' k => by
    obtain ⟨⟨b, he, hb⟩, h2⟩ := k
    have : b = true := hb.2 h
    subst this
    exact ⟨he, h2⟩
theorem tdsF_len (N : Nat) (mem cost : Nat → Int) : (tdsF N mem cost).length = N := by simp [tdsF]
theorem tdsF_get (N : Nat) (mem cost : Nat → Int) (i : Nat) (hi : i < N) : (tdsF N mem cost).getD i ⟨0, 0⟩ = ⟨mem i, cost i⟩ := by
  unfold tdsF
  rw [List.getD_eq_getElem?_getD, List.getElem?_map, List.getElem?_range hi]
  rfl
theorem info74 : (Tryz.prog.info? 74).map (fun i => (i.zero, i.size, i.bytes)) = some (some (.pointer none), 1, 8) := by kernel_rfl
def nilV : Value := .slice none 0 0
theorem newP_start (c : Cf) (N : Nat) (mem cost : Nat → Int) (va : Value) (gg gm : Nat) {w w2 w3 w4 w5 w6 w7 w8 w9 : World} (tp lp rp : Nat → Nat) (cv : Nat → Value) (b2 : Below w.heap.size w w2)
    (hall : NewR w2 29 2 va N (flat encTd (tdsF N mem cost)) w3) (hgr : GrAt (fun k => w3.heap.size ≤ k) w4 gg (grNew N)) (b4 : Below w3.heap.size w3 w4)
    (htm : TmAt (fun k => w4.heap.size ≤ k) w5 gm (hpNew N)) (b5 : Below w4.heap.size w4 w5) (hled : At w6 w5.heap.size (fresh c.budget c.slots)) (b6 : Below w5.heap.size w5 w6)
    (had : AdmAt (fun k => k = w6.heap.size) w7 w6.heap.size (admNew c.active c.queue)) (b7 : Below w6.heap.size w6 w7) (htu : TurAt (fun k => w7.heap.size ≤ k) w8 w7.heap.size (turNew c.quantum)) (b8 : Below w7.heap.size w7 w8)
    (hx : w9.heap[w8.heap.size]? = some (.cells (encEng (engI c N mem cost 0) ⟨va, nilV, nilV, nilV, gg, gm, w5.heap.size, w6.heap.size, w7.heap.size, tp, lp, rp, cv⟩) 72 (0, 0))) (b9 : Below w8.heap.size w8 w9) :
    ∃ ρ, NewP (fun k => w.heap.size ≤ k) ρ w9 w8.heap.size (engI c N mem cost 0) ⟨va, nilV, nilV, nilV, gg, gm, w5.heap.size, w6.heap.size, w7.heap.size, tp, lp, rp, cv⟩ N (tdsF N mem cost) := by
  have z2 := b2.size
  have z3 := hall.2.size
  have z4 := b4.size
  have z5 := b5.size
  have z6 := b6.size
  have z7 := b7.size
  have z8 := b8.size
  have z9 := b9.size
  have l6 : w5.heap.size < w6.heap.size := blk_lt hled
  have l7 : w6.heap.size < w7.heap.size := by obtain ⟨_, _, h⟩ := had; exact blk_lt h.blk
  have l8 : w7.heap.size < w8.heap.size := by obtain ⟨_, _, h⟩ := htu; exact blk_lt h.blk
  have l9 : w8.heap.size < w9.heap.size := blk_lt hx
  obtain ⟨ρ, hρ⟩ : ∃ ρ : Nat → Rl, ρ = fun k => if k < w2.heap.size then .no else if k < w3.heap.size then .all else if k < w4.heap.size then .gr else if k < w5.heap.size then .tm else if k < w6.heap.size then .led else if k < w7.heap.size then .ad else if k < w8.heap.size then .tu else if k = w8.heap.size then .eng else .no := ⟨_, rfl⟩
  have r3 : ∀ k, w2.heap.size ≤ k → k < w3.heap.size → ρ k = .all := fun k h1 h2 => by rw [hρ]; show (if _ then _ else _) = _; rw [if_neg (by omega), if_pos (by omega)]
  have r4 : ∀ k, w3.heap.size ≤ k → k < w4.heap.size → ρ k = .gr := fun k h1 h2 => by rw [hρ]; show (if _ then _ else _) = _; rw [if_neg (by omega), if_neg (by omega), if_pos (by omega)]
  have r5 : ∀ k, w4.heap.size ≤ k → k < w5.heap.size → ρ k = .tm := fun k h1 h2 => by rw [hρ]; show (if _ then _ else _) = _; rw [if_neg (by omega), if_neg (by omega), if_neg (by omega), if_pos (by omega)]
  have r6 : ∀ k, w5.heap.size ≤ k → k < w6.heap.size → ρ k = .led := fun k h1 h2 => by rw [hρ]; show (if _ then _ else _) = _; rw [if_neg (by omega), if_neg (by omega), if_neg (by omega), if_neg (by omega), if_pos (by omega)]
  have r7 : ∀ k, w6.heap.size ≤ k → k < w7.heap.size → ρ k = .ad := fun k h1 h2 => by rw [hρ]; show (if _ then _ else _) = _; rw [if_neg (by omega), if_neg (by omega), if_neg (by omega), if_neg (by omega), if_neg (by omega), if_pos (by omega)]
  have r8 : ∀ k, w7.heap.size ≤ k → k < w8.heap.size → ρ k = .tu := fun k h1 h2 => by rw [hρ]; show (if _ then _ else _) = _; rw [if_neg (by omega), if_neg (by omega), if_neg (by omega), if_neg (by omega), if_neg (by omega), if_neg (by omega), if_pos (by omega)]
  have r9 : ρ w8.heap.size = .eng := by rw [hρ]; show (if _ then _ else _) = _; rw [if_neg (by omega), if_neg (by omega), if_neg (by omega), if_neg (by omega), if_neg (by omega), if_neg (by omega), if_neg (by omega), if_pos rfl]
  have rn : ∀ k, ρ k ≠ .no → w2.heap.size ≤ k ∧ k ≤ w8.heap.size := fun k hk => by
    rw [hρ] at hk
    refine ⟨Nat.le_of_not_lt fun h => hk (if_pos h), Nat.le_of_not_lt fun h => hk ?_⟩
    show (if _ then _ else _) = _
    rw [if_neg (by omega), if_neg (by omega), if_neg (by omega), if_neg (by omega), if_neg (by omega), if_neg (by omega), if_neg (by omega), if_neg (by omega)]
  have c8 : Below w8.heap.size w8 w9 := b9
  have c7 : Below w7.heap.size w7 w9 := below_step b8 c8
  have c6 : Below w6.heap.size w6 w9 := below_step b7 c7
  have c5 : Below w5.heap.size w5 w9 := below_step b6 c6
  have c4 : Below w4.heap.size w4 w9 := below_step b5 c5
  have c3 : Below w3.heap.size w3 w9 := below_step b4 c4
  refine ⟨ρ, fun r hr => ?_, ?_, fun k hk => ?_, fun k hk => ?_⟩
  · cases r with
    | no => trivial
    | all => exact absurd rfl hr
    | eng => exact ⟨r9, hx⟩
    | tasks => exact RowAt.nil _ _ _ _
    | task j => intro hj; exact absurd hj (Nat.not_lt_zero _)
    | life j => intro hj; exact absurd hj (Nat.not_lt_zero _)
    | reqs => exact RowAt.nil _ _ _ _
    | req j => intro hj; exact absurd hj (Nat.not_lt_zero _)
    | gr => exact (hgr.mono (T := R ρ .gr) fun k h1 h2 => r4 k h2 h1).keep (Keep.of_below c4)
    | tm => exact (htm.mono (T := R ρ .tm) fun k h1 h2 => r5 k h2 h1).keep (Keep.of_below c5)
    | led => exact ⟨r6 _ (Nat.le_refl _) l6, (c6.block _ l6).trans hled⟩
    | ad => exact (had.mono (T := R ρ .ad) fun k h1 h2 => r7 k (by omega) h1).keep (Keep.of_below c7)
    | tu => exact (htu.mono (T := R ρ .tu) fun k h1 h2 => r8 k h2 h1).keep (Keep.of_below c8)
    | log => exact RowAt.nil _ _ _ _
  · exact (hall.1.mono (T := R ρ .all) fun k h1 h2 => r3 k h2 h1).keep (Keep.of_below c3)
  · have := (rn k hk).2; omega
  · have := (rn k hk).1; show w.heap.size ≤ k; omega
theorem NewP.mono {S T : Nat → Prop} {ρ : Nat → Rl} {w : World} {g : Nat} {e : Eng} {V : EV} {N : Nat} {tds : List Td} (h : NewP S ρ w g e V N tds) (hs : ∀ k, S k → T k) : NewP T ρ w g e V N tds := ⟨h.p, h.all, h.lt, fun k hk => hs k (h.sub k hk)⟩
theorem newP_end {S : Nat → Prop} {ρ : Nat → Rl} {w : World} {g : Nat} {c : Cf} {N : Nat} {mem cost : Nat → Int} {V : EV} (hN : 1 ≤ N) (h : NewP S ρ w g (engI c N mem cost N) V N (tdsF N mem cost)) : ∃ K, EngAt S w g K (eng0 c N mem cost) := by
  have h1 : EngP S ρ w g (eng0 c N mem cost) V := NewP.done h
  obtain ⟨b, cc, hv, -⟩ := row_cell (h1.p .tasks) 0 (by show 0 < N; omega) (ptrV (V.tp 0)) (by show ((List.range N).map _)[0]? = _; rw [List.getElem?_map, List.getElem?_range (by omega)]; rfl)
  have hv' : V.vt = .slice (some ⟨b, 0, none⟩) N cc := hv
  obtain ⟨va, vt, vr, vl, gg, gm, gl, ga, gu, tp, lp, rp, cv⟩ := V
  simp only at hv'
  subst hv'
  exact ⟨⟨va, b, cc, gg, gm, gl, ga, gu, tp, lp, rp⟩, ρ, vr, vl, cv, h1⟩
set_option maxHeartbeats 8000000 in
set_option maxRecDepth 100000 in
theorem ENew_calls (c : Cf) (hc : CfOk c) (N : Nat) (hN : 1 ≤ N ∧ N ≤ 12) (mem cost : Nat → Int) (htd : ∀ i, i < N → 1 ≤ mem i ∧ mem i ≤ 1048576 ∧ 1 ≤ cost i ∧ cost i ≤ 1048576) (A : Option Addr) (cl : Nat) (T : Nat → Prop) (w : World)
    (hr : RowAt T w 29 2 (.slice A N cl) N (flat encTd (tdsF N mem cost))) :
    Calls Tryz.prog 17 #[.agg (encCf c), .slice A N cl] w fun en w' => ∃ g K, en = .returned (.tuple #[.pointer (some ⟨g, 0, none⟩), .int .i64 0]) ∧ w.heap.size ≤ g ∧ EngAt (fun k => w.heap.size ≤ k) w' g K (eng0 c N mem cost) ∧ Below w.heap.size w w' := by
  obtain ⟨ad, hAd, -, -⟩ := hr.item (enc := encTd) (sz := 2) (fun _ => rfl) (by decide) ⟨0, 0⟩ 0 (by rw [tdsF_len]; omega)
  subst hAd
  have HC := Aside0.mk hc
  have HTD := Aside0.mk htd
  have HR := Aside0.mk hr
  obtain ⟨w0, hw0⟩ : ∃ w0, w0 = w.alloc (.cells (encCf c) 26) := ⟨_, rfl⟩
  have HB0 := Aside0.mk (show Below w.heap.size w w0 from hw0 ▸ below_alloc (Below.refl _ w) _)
  have HX0 := Aside0.mk (show w0.heap[w.heap.size]? = some (.cells (encCf c) 26 (0, 0)) from hw0 ▸ heap_alloc_new w _)
  have HW0 := Aside0.mk hw0
  clear hc htd hr hw0
  go_enter Tryz.func17, Tryz.ntmps17
  go_upto_region 1 with (fail)
  rw [← HW0.out]
  obtain ⟨B, hB⟩ : ∃ B, w.heap.size = B := ⟨_, rfl⟩
  rw [hB] at HX0 ⊢
  have HBB := Aside0.mk hB
  have e0 := (blk_cell HX0.out 0).trans (show _ = some (Value.int .i64 c.budget) from rfl)
  have e1 := (blk_cell HX0.out 1).trans (show _ = some (Value.int .i64 c.slots) from rfl)
  have e2 := (blk_cell HX0.out 2).trans (show _ = some (Value.int .i64 c.active) from rfl)
  have e3 := (blk_cell HX0.out 3).trans (show _ = some (Value.int .i64 c.queue) from rfl)
  have e4 := (blk_cell HX0.out 4).trans (show _ = some (Value.int .i64 c.tries) from rfl)
  have e5 := (blk_cell HX0.out 5).trans (show _ = some (Value.int .i64 c.preempts) from rfl)
  have e6 := (blk_cell HX0.out 6).trans (show _ = some (Value.int .i64 c.timeout) from rfl)
  have e7 := (blk_cell HX0.out 7).trans (show _ = some (Value.int .i64 c.backoff) from rfl)
  have e8 := (blk_cell HX0.out 8).trans (show _ = some (Value.int .i64 c.most) from rfl)
  have e9 := (blk_cell HX0.out 9).trans (show _ = some (Value.int .i64 c.quantum) from rfl)
  have p64 : ((64 : Int) < (N : Int)) = False := eq_false (by omega)
  go_upto_region 7 with (go_at_call 32; go_loud (refine (cConfig_calls c HC.out _).mono ?_); rintro en w1 ⟨rfl, hb1⟩; have HB1 := Aside0.mk hb1; clear hb1)
  clear e0 e1 e2 e3 e4 e5 e6 e7 e8 e9
  refine wp_region_any (by kernel_rfl) ?_
  obtain ⟨w2, hw2⟩ : ∃ w2 : World, w2 = { w1 with drawn := w1.drawn + 1 } := ⟨_, rfl⟩
  rw [← hw2]
  have HB2 := Aside0.mk (below_step HB1.out (show Below w1.heap.size w1 w2 from hw2 ▸ pw_below_drewN (Below.refl _ w1) 1))
  clear hw2
  have HX2 := Aside0.mk (blk_below HX0.out HB2.out)
  obtain ⟨CL, hCL⟩ : ∃ CL : List (Addr × Value), CL = [(⟨B, 0, none⟩, .int .i64 c.budget), (⟨B, 1, none⟩, .int .i64 c.slots), (⟨B, 2, none⟩, .int .i64 c.active), (⟨B, 3, none⟩, .int .i64 c.queue), (⟨B, 4, none⟩, .int .i64 c.tries), (⟨B, 5, none⟩, .int .i64 c.preempts), (⟨B, 6, none⟩, .int .i64 c.timeout), (⟨B, 7, none⟩, .int .i64 c.backoff), (⟨B, 8, none⟩, .int .i64 c.most), (⟨B, 9, none⟩, .int .i64 c.quantum)] := ⟨_, rfl⟩
  have k0 : ∀ x : CW CL, x.w.cell? ⟨B, 0, none⟩ = some (.int .i64 c.budget) := fun x => x.h.get 0 (by rw [hCL]; rfl)
  have k1 : ∀ x : CW CL, x.w.cell? ⟨B, 1, none⟩ = some (.int .i64 c.slots) := fun x => x.h.get 1 (by rw [hCL]; rfl)
  have k2 : ∀ x : CW CL, x.w.cell? ⟨B, 2, none⟩ = some (.int .i64 c.active) := fun x => x.h.get 2 (by rw [hCL]; rfl)
  have k3 : ∀ x : CW CL, x.w.cell? ⟨B, 3, none⟩ = some (.int .i64 c.queue) := fun x => x.h.get 3 (by rw [hCL]; rfl)
  have k4 : ∀ x : CW CL, x.w.cell? ⟨B, 4, none⟩ = some (.int .i64 c.tries) := fun x => x.h.get 4 (by rw [hCL]; rfl)
  have k5 : ∀ x : CW CL, x.w.cell? ⟨B, 5, none⟩ = some (.int .i64 c.preempts) := fun x => x.h.get 5 (by rw [hCL]; rfl)
  have k6 : ∀ x : CW CL, x.w.cell? ⟨B, 6, none⟩ = some (.int .i64 c.timeout) := fun x => x.h.get 6 (by rw [hCL]; rfl)
  have k7 : ∀ x : CW CL, x.w.cell? ⟨B, 7, none⟩ = some (.int .i64 c.backoff) := fun x => x.h.get 7 (by rw [hCL]; rfl)
  have k8 : ∀ x : CW CL, x.w.cell? ⟨B, 8, none⟩ = some (.int .i64 c.most) := fun x => x.h.get 8 (by rw [hCL]; rfl)
  have k9 : ∀ x : CW CL, x.w.cell? ⟨B, 9, none⟩ = some (.int .i64 c.quantum) := fun x => x.h.get 9 (by rw [hCL]; rfl)
  have HS := Aside0.mk (show Cells CL w2 from by
    rw [hCL]
    have h := fun j => blk_cell HX2.out j
    exact Cells.cons ((h 0).trans rfl) (Cells.cons ((h 1).trans rfl) (Cells.cons ((h 2).trans rfl) (Cells.cons ((h 3).trans rfl) (Cells.cons ((h 4).trans rfl) (Cells.cons ((h 5).trans rfl) (Cells.cons ((h 6).trans rfl) (Cells.cons ((h 7).trans rfl) (Cells.cons ((h 8).trans rfl) (Cells.cons ((h 9).trans rfl) (Cells.nil _)))))))))))
  have hne : Nonempty (CW CL) := ⟨⟨_, HS.out⟩⟩
  clear hCL
  refine Qt.wpAny_of_T (S := fun w' => ∃ x : CW CL, w' = x.w) (n := 20) _ _ _ _ ?_
  refine Qt.wpAnyT_batchL 9 (fun l => l.take 2 ++ (l.drop 3).take 1 ++ (l.drop 5).take 1 ++ (l.drop 7).take 4 ++ (l.drop 12).take 4 ++ (l.drop 17).take 2) [0, 1, 3, 5, 7, 8, 9, 10, 12, 13, 14, 15, 17, 18] rfl (fun _ _ d _ _ h => by cases d <;> exact h) ⟨CW.mk _ HS.out, rfl⟩ rfl (by kernel_rfl) (Qt.held_start (by kernel_rfl)) (by kernel_rfl) ?_
  simp only [List.take_succ_cons, List.take_zero, List.drop_succ_cons, List.drop_zero, List.cons_append, List.nil_append, Act.put, List.getElem_toArray, List.getElem_cons_succ, List.getElem_cons_zero, List.setIfInBounds_toArray, List.set_cons_succ, List.set_cons_zero]
  repeat (go_big_quiet_step ((fail)))
  refine wpQuiet_nil ?_
  refine Qt.wpAnyT_one (i := 2) (by kernel_rfl) rfl ?_
  go_wp2_with (go_at_call 33; go_loud (refine (Clone33_calls T (some ad) N cl (flat encTd (tdsF N mem cost)) _ ?q1 ?q2 ?q3).mono ?_); (case q1 => exact HR.out.keep (Keep.of_below (below_step HB0.out HB2.out))); (case q2 => exact flat_td1 _); (case q3 => omega); rintro en w3 ⟨va, rfl, hnew⟩; obtain ⟨Aa, ca, rfl⟩ := hnew.1.slice; have HN3 := Aside0.mk hnew; have HD3 := Aside0.mk hnew.2; clear hnew)
  refine ⟨fun _ => ⟨CW.mk _ (HS.out.below HD3.out), rfl⟩, ?_⟩
  refine Qt.wpAnyT_one (i := 4) (by kernel_rfl) rfl ?_
  go_wp2_with (go_at_call 34; go_loud (refine (GNew_calls N ?q1 _).mono ?_); (case q1 => omega); rintro en w4 ⟨gg, hgg, rfl, hat, hb⟩; have HG4 := Aside0.mk hat; have HB4 := Aside0.mk hb; have HD4 := Aside0.mk (below_step HD3.out hb); clear hat hb hgg)
  refine ⟨fun _ => ⟨CW.mk _ (HS.out.below HD4.out), rfl⟩, ?_⟩
  refine Qt.wpAnyT_one (i := 6) (by kernel_rfl) rfl ?_
  go_wp2_with (go_at_call 35; go_loud (refine (TmNew_calls N ?q1 _).mono ?_); (case q1 => omega); rintro en w5 ⟨gm, hgm, rfl, hat, hb⟩; have HG5 := Aside0.mk hat; have HB5 := Aside0.mk hb; have HD5 := Aside0.mk (below_step HD4.out hb); clear hat hb hgm)
  refine ⟨fun _ => ⟨CW.mk _ (HS.out.below HD5.out), rfl⟩, ?_⟩
  refine Qt.wpAnyT_one (i := 11) (by kernel_rfl) rfl ?_
  go_wp2_with (go_at_call 36; go_loud (refine (New_calls c.budget c.slots _).mono ?_); rintro en w6 ⟨rfl, hat, hb⟩; have HG6 := Aside0.mk hat; have HB6 := Aside0.mk hb; have HD6 := Aside0.mk (below_step HD5.out hb); clear hat hb)
  refine ⟨fun _ => ⟨CW.mk _ (HS.out.below HD6.out), rfl⟩, ?_⟩
  refine Qt.wpAnyT_one (i := 16) (by kernel_rfl) rfl ?_
  go_wp2_with (go_at_call 37; go_loud (refine (ANew_calls c.active c.queue _).mono ?_); rintro en w7 ⟨rfl, hat, hb⟩; have HG7 := Aside0.mk hat; have HB7 := Aside0.mk hb; have HD7 := Aside0.mk (below_step HD6.out hb); clear hat hb)
  refine ⟨fun _ => ⟨CW.mk _ (HS.out.below HD7.out), rfl⟩, ?_⟩
  refine Qt.wpAnyT_one (i := 19) (by kernel_rfl) rfl ?_
  go_wp2_with (go_at_call 38; go_loud (refine (TurNew_calls c.quantum _).mono ?_); rintro en w8 ⟨rfl, hat, hb⟩; have HG8 := Aside0.mk hat; have HB8 := Aside0.mk hb; have HD8 := Aside0.mk (below_step HD7.out hb); clear hat hb)
  refine ⟨fun _ => ⟨CW.mk _ (HS.out.below HD8.out), rfl⟩, ?_⟩
  refine Qt.wpAnyT_tailL rfl (by kernel_rfl) ?_
  simp only [List.take_succ_cons, List.take_zero, List.drop_succ_cons, List.drop_zero, List.cons_append, List.nil_append]
  clear k0 k1 k2 k3 k4 k5 k6 k7 k8 k9 hne
  go_upto_region 8 with (fail)
  obtain ⟨w9, hw9⟩ : ∃ w9, w9 = w8.alloc (.cells (encEng (engI c N mem cost 0) ⟨.slice Aa N ca, nilV, nilV, nilV, gg, gm, w5.heap.size, w6.heap.size, w7.heap.size, fun _ => 0, fun _ => 0, fun _ => 0, fun _ => nilV⟩) 72) := ⟨_, rfl⟩
  rw [show w8.alloc (.cells #[.int .i64 c.budget, .int .i64 c.slots, .int .i64 c.active, .int .i64 c.queue, .int .i64 c.tries, .int .i64 c.preempts, .int .i64 c.timeout, .int .i64 c.backoff, .int .i64 c.most, .int .i64 c.quantum, .slice Aa N ca, .slice none 0 0, .slice none 0 0, .pointer (some ⟨gg, 0, none⟩), .pointer (some ⟨gm, 0, none⟩), .pointer (some ⟨w5.heap.size, 0, none⟩), .pointer (some ⟨w6.heap.size, 0, none⟩), .pointer (some ⟨w7.heap.size, 0, none⟩), .int .i64 0, .int .i64 0, .slice none 0 0] 72) = w9 from by rw [hw9]; rfl]
  have hx9 := hw9 ▸ heap_alloc_new w8 (.cells (encEng (engI c N mem cost 0) ⟨.slice Aa N ca, nilV, nilV, nilV, gg, gm, w5.heap.size, w6.heap.size, w7.heap.size, fun _ => 0, fun _ => 0, fun _ => 0, fun _ => nilV⟩) 72)
  have hb9 : Below w8.heap.size w8 w9 := hw9 ▸ below_alloc (Below.refl _ w8) _
  obtain ⟨ρ0, hP0⟩ := newP_start c N mem cost (.slice Aa N ca) gg gm (fun _ => 0) (fun _ => 0) (fun _ => 0) (fun _ => nilV) (below_step HB0.out HB2.out) HN3.out HG4.out HB4.out HG5.out HB5.out HG6.out HB6.out HG7.out HB7.out HG8.out HB8.out hx9 hb9
  have hdx : Below w.heap.size w w9 := below_step (below_step (below_step HB0.out HB2.out) HD8.out) hb9
  have hbx : w9.heap[B]? = some (.cells (encCf c) 26 (0, 0)) := blk_below HX0.out (below_step (below_step HB2.out HD8.out) hb9)
  have hle : w.heap.size ≤ w8.heap.size := (below_step (below_step HB0.out HB2.out) HD8.out).size
  obtain ⟨V0, hV0⟩ : ∃ V0 : EV, V0 = ⟨.slice Aa N ca, nilV, nilV, nilV, gg, gm, w5.heap.size, w6.heap.size, w7.heap.size, fun _ => 0, fun _ => 0, fun _ => 0, fun _ => nilV⟩ := ⟨_, rfl⟩
  rw [← hV0] at hP0
  have HCV := Aside0.mk (show ∀ k, V0.cv k = nilV from fun k => by rw [hV0])
  obtain ⟨g, hg⟩ : ∃ g, w8.heap.size = g := ⟨_, rfl⟩
  rw [hg] at hP0 hle ⊢
  have HP0 := Aside0.mk (And.intro hP0 (And.intro hdx hbx))
  have HLE := Aside0.mk hle
  clear hP0 hdx hbx hle hx9 hb9 hw9 hV0 hg HG4 HG5 HG6 HG7 HG8 HB4 HB5 HB6 HB7 HB8 HD3 HD4 HD5 HD6 HD7 HD8 HN3 HS p64 HX2
  go_wp2
  go_loopg [46] (N + 1) (fun kq v46 wr => ∃ (i : Nat) (ρ : Nat → Rl) (V : EV), v46 = .int .i64 (i : Int) ∧ Aside0 (kq + i = N + 1 ∧ i ≤ N ∧ NewP (fun k => w.heap.size ≤ k) ρ wr g (engI c N mem cost i) V N (tdsF N mem cost) ∧ Below w.heap.size w wr ∧ wr.heap[B]? = some (.cells (encCf c) 26 (0, 0)) ∧ ∀ k, V.cv k = nilV))
  case atStart => exact ⟨0, ρ0, V0, rfl, ⟨by omega, by omega, HP0.out.1, HP0.out.2.1, HP0.out.2.2, HCV.out⟩⟩
  case round =>
    clear HP0 HCV
    obtain ⟨i, ρ, V, rfl, hA⟩ := hrel
    obtain ⟨hk, hi, hP, hb, hbx, hcv⟩ := hA.out
    have HCV := Aside0.mk hcv
    have HK := Aside0.mk hk
    have HP := Aside0.mk hP
    have HB := Aside0.mk hb
    have HX := Aside0.mk hbx
    clear hA hk hP hb hbx hcv
    by_cases hlt : i < N
    · obtain ⟨_, h1, d0, d1⟩ := (HR.out.keep (Keep.of_below HB.out)).item (enc := encTd) (sz := 2) (fun _ => rfl) (by decide) ⟨0, 0⟩ i (by rw [tdsF_len]; exact hlt)
      injection h1 with h1
      subst h1
      rw [tdsF_get N mem cost i hlt] at d0 d1
      obtain ⟨m, hm⟩ : ∃ m, mem i = m := ⟨_, rfl⟩
      obtain ⟨cs, hcs⟩ : ∃ cs, cost i = cs := ⟨_, rfl⟩
      have HM := Aside0.mk (show 1 ≤ m ∧ m ≤ 1048576 ∧ 1 ≤ cs ∧ cs ≤ 1048576 from hm ▸ hcs ▸ HTD.out i hlt)
      have c0 : wr.cell? (ad.add (i * 2)) = some (.int .i64 m) := by rw [← hm]; exact d0.trans rfl
      have c1 : wr.cell? ⟨(ad.add (i * 2)).block, (ad.add (i * 2)).off + 1, none⟩ = some (.int .i64 cs) := by rw [← hcs]; exact (d1 1 (by decide) (by decide)).trans rfl
      have HMC := Aside0.mk (And.intro hm hcs)
      have q1 : (0 ≤ (i : Int)) = True := eq_true (by omega)
      have q2 : ((i : Int) < (N : Int)) = True := eq_true (by omega)
      clear hm hcs d0 d1
      go_upto_region 11 with (fail)
      obtain ⟨wa, hwa⟩ : ∃ wa, wa = wr.alloc (.cells #[.int .i64 m, .int .i64 cs] 29) := ⟨_, rfl⟩
      rw [← hwa]
      have HBa := Aside0.mk (show Below wr.heap.size wr wa from hwa ▸ below_alloc (Below.refl _ wr) _)
      have HXa := Aside0.mk (show wa.heap[wr.heap.size]? = some (.cells #[.int .i64 m, .int .i64 cs] 29 (0, 0)) from hwa ▸ heap_alloc_new wr _)
      clear hwa c0 c1
      obtain ⟨ba, hba⟩ : ∃ ba, wr.heap.size = ba := ⟨_, rfl⟩
      rw [hba] at HXa ⊢
      have HBA := Aside0.mk hba
      clear hba
      have f0 := (blk_cell HXa.out 0).trans (show _ = some (Value.int .i64 m) from rfl)
      have f1 := (blk_cell HXa.out 1).trans (show _ = some (Value.int .i64 cs) from rfl)
      go_upto_region 14 with (go_at_call 39; go_loud (refine (cTask_ok m cs HM.out _).mono ?_); rintro en wb ⟨rfl, hb1⟩; have HBb := Aside0.mk hb1; clear hb1)
      clear f0 f1
      refine wp_region_any (by kernel_rfl) ?_
      obtain ⟨wc, hwc⟩ : ∃ wc : World, wc = { wb with drawn := wb.drawn + 1 } := ⟨_, rfl⟩
      rw [← hwc]
      have hbc : Below wa.heap.size wa wc := below_step HBb.out (hwc ▸ pw_below_drewN (Below.refl _ wb) 1)
      have HBc := Aside0.mk (below_step HBa.out hbc)
      have HXc := Aside0.mk (blk_below HXa.out hbc)
      have HPc := Aside0.mk (HP.out.keep HBc.out)
      have HXB := Aside0.mk (blk_below HX.out HBc.out)
      clear hwc hbc
      obtain ⟨AT, cT, hvt⟩ := RowAt.slice (HPc.out.p .tasks (by simp))
      have HVT := Aside0.mk hvt
      have hrow := HPc.out.p .tasks (by simp)
      have HROW := Aside0.mk (show RowAt (R ρ .tasks) wc 74 1 (.slice AT i cT) i (slRow i fun k => ptrV (V.tp k)) from hvt ▸ hrow)
      have HBLK := Aside0.mk (HPc.out.p .eng (by simp)).2
      have HCS := Aside0.mk (show (encEng (engI c N mem cost i) V)[11]? = some (.slice AT i cT) from by show some V.vt = _; rw [hvt]; rfl)
      have d11 := (blk_cell HBLK.out 11).trans HCS.out
      have d0 := (blk_cell HXc.out 0).trans (show _ = some (Value.int .i64 m) from rfl)
      have d1 := (blk_cell HXc.out 1).trans (show _ = some (Value.int .i64 cs) from rfl)
      have d4 := (blk_cell HXB.out 4).trans (show _ = some (Value.int .i64 c.tries) from rfl)
      have d5 := (blk_cell HXB.out 5).trans (show _ = some (Value.int .i64 c.preempts) from rfl)
      obtain ⟨CL, hCL⟩ : ∃ CL : List (Addr × Value), CL = [(⟨g, 11, none⟩, .slice AT i cT), (⟨ba, 0, none⟩, .int .i64 m), (⟨ba, 1, none⟩, .int .i64 cs), (⟨B, 4, none⟩, .int .i64 c.tries), (⟨B, 5, none⟩, .int .i64 c.preempts)] := ⟨_, rfl⟩
      have m1 : ∀ x : CW CL, x.w.cell? ⟨g, 11, none⟩ = some (.slice AT i cT) := fun x => x.h.get 0 (by rw [hCL]; rfl)
      have m2 : ∀ x : CW CL, x.w.cell? ⟨ba, 0, none⟩ = some (.int .i64 m) := fun x => x.h.get 1 (by rw [hCL]; rfl)
      have m3 : ∀ x : CW CL, x.w.cell? ⟨ba, 1, none⟩ = some (.int .i64 cs) := fun x => x.h.get 2 (by rw [hCL]; rfl)
      have m4 : ∀ x : CW CL, x.w.cell? ⟨B, 4, none⟩ = some (.int .i64 c.tries) := fun x => x.h.get 3 (by rw [hCL]; rfl)
      have m5 : ∀ x : CW CL, x.w.cell? ⟨B, 5, none⟩ = some (.int .i64 c.preempts) := fun x => x.h.get 4 (by rw [hCL]; rfl)
      have HS := Aside0.mk (show Cells CL wc from hCL ▸ Cells.cons d11 (Cells.cons d0 (Cells.cons d1 (Cells.cons d4 (Cells.cons d5 (Cells.nil _))))))
      have hne : Nonempty (CW CL) := ⟨⟨_, HS.out⟩⟩
      clear hCL d0 d1 d4 d5 d11 hrow hvt
      refine wpAny_take (i := 0) (v := .pointer (some ⟨g, 0, none⟩)) rfl (by kernel_rfl) (by kernel_rfl) (by kernel_rfl) (fun _ _ _ h => h) (Or.inl ⟨rfl, fun w => rfl⟩) ?_
      refine Qt.wpAny_of_T (S := fun w' => ∃ x : CW CL, w' = x.w) (n := 14) _ _ _ _ ?_
      refine Qt.wpAnyT_batchL 8 (fun l => (l.drop 1).take 9) ((List.range 9).map (· + 1)) rfl (fun _ _ d _ _ h => by cases d <;> exact h) ⟨CW.mk _ HS.out, rfl⟩ rfl (by kernel_rfl) (Qt.held_start (by kernel_rfl)) (by kernel_rfl) ?_
      simp only [List.take_succ_cons, List.take_zero, List.drop_succ_cons, List.drop_zero, List.cons_append, List.nil_append, Act.put, List.getElem_toArray, List.getElem_cons_succ, List.getElem_cons_zero, List.setIfInBounds_toArray, List.set_cons_succ, List.set_cons_zero]
      repeat (go_big_quiet_step ((fail)))
      refine wpQuiet_nil ?_
      refine Qt.wpAnyT_one (i := 10) (by kernel_rfl) rfl ?_
      go_wp2_with (go_at_call 40; go_loud (refine (LNew_calls c.tries c.preempts _).mono ?_); rintro en wd ⟨rfl, hl, hb⟩; have HLd := Aside0.mk hl; have HBd := Aside0.mk hb; clear hl hb)
      refine ⟨fun _ => ⟨CW.mk _ (HS.out.below HBd.out), rfl⟩, ?_⟩
      obtain ⟨lb, hlb⟩ : ∃ lb, wc.heap.size = lb := ⟨_, rfl⟩
      rw [hlb] at HLd ⊢
      have HLB := Aside0.mk hlb
      clear hlb
      refine Qt.wpAnyT_one (i := 11) (by kernel_rfl) rfl ?_
      go_wp2
      refine ⟨fun _ => ⟨CW.mk _ (HS.out.below HBd.out), rfl⟩, ?_⟩
      refine Qt.wpAnyT_one (i := 12) (by kernel_rfl) rfl ?_
      go_wp2
      obtain ⟨w6, hw6⟩ : ∃ w6, w6 = wd.alloc (.cells #[.int .i64 m, .int .i64 cs, .pointer (some ⟨lb, 0, none⟩), .int .i64 (-1), .int .i64 0, .slice none 0 0] 78) := ⟨_, rfl⟩
      rw [← hw6]
      have HB6 := Aside0.mk (below_step HBd.out (show Below wd.heap.size wd w6 from hw6 ▸ below_alloc (Below.refl _ wd) _))
      have HL6 := Aside0.mk (HLd.out.below (show Below wd.heap.size wd w6 from hw6 ▸ below_alloc (Below.refl _ wd) _))
      have HX6 := Aside0.mk (show w6.heap[wd.heap.size]? = some (.cells #[.int .i64 m, .int .i64 cs, .pointer (some ⟨lb, 0, none⟩), .int .i64 (-1), .int .i64 0, .slice none 0 0] 78 (0, 0)) from hw6 ▸ heap_alloc_new wd _)
      clear hw6
      refine ⟨fun _ => ⟨CW.mk _ (HS.out.below HB6.out), rfl⟩, ?_⟩
      refine Qt.wpAnyT_one (i := 13) (by kernel_rfl) rfl ?_
      go_wp2
      refine ⟨fun _ => ⟨CW.mk _ (HS.out.below (below_alloc HB6.out _)), rfl⟩, ?_⟩
      refine Qt.wpAnyT_tailL rfl (by kernel_rfl) ?_
      simp only [List.take_succ_cons, List.take_zero, List.drop_succ_cons, List.drop_zero, List.cons_append, List.nil_append]
      clear m1 m2 m3 m4 m5 hne
      go_upto_region 15 with (at_builtin; go_loud (refine wp_push_n (S := R ρ .tasks) (w := wc) (wb := w6) rfl (.tmp 59) (.tmp 68) 64 74 (.pointer none) 1 8 rfl Tryz.underlying64 info74 rfl (by decide) (by decide) (.slice AT i cT) i (slRow i fun k => ptrV (V.tp k)) [ptrV wd.heap.size] g 11 (encEng (engI c N mem cost i) V) 72 rfl rfl rfl ?a0 ?a1 ?a2 ?a3 (by decide) ?a4 ?_); (case a0 => simp [ptrV, Value.oneCell']); (case a1 => exact HROW.out); (case a2 => exact HB6.out); (case a3 => exact HBLK.out); (case a4 => omega); (intro A6 c6 w7 hpre; have d6 := (blk_cell hpre.pre.blk 11).trans HCS.out; have f6 := blk_frozen hpre.pre.blk 11; have HF := Aside0.mk hpre; clear hpre))
      obtain ⟨w8, hw8⟩ : ∃ w8, w8 = w7.setCell ⟨g, 11, none⟩ (.slice A6 (i + 1) c6) := ⟨_, rfl⟩
      rw [← hw8]
      have HPU := Aside0.mk (show Pushed (R ρ .tasks) wc w6 w8 74 1 V.vt (.slice A6 (i + 1) c6) (i + 1) (slRow i (fun k => ptrV (V.tp k)) ++ [ptrV wd.heap.size]) g ((encEng (engI c N mem cost i) V).setIfInBounds 11 (.slice A6 (i + 1) c6)) 72 from by rw [HVT.out]; exact hw8 ▸ HF.out.pre.post)
      clear hw8 d6 f6
      go_wp2
      go_roundg (gk - 1)
      case measure => have := HK.out; omega
      case rel =>
        have hb8 : Below w.heap.size w w8 := Chg.to_below (below_step HB.out HBc.out) HPU.out.chg (fun k hk => by
          rcases hk with hk | hk
          · rw [hk]; exact HLE.out
          · exact HPc.out.sub k (by rw [(HPc.out.p .tasks (by simp)).fp k hk]; exact fun e => by cases e))
        have hxb8 : w8.heap[B]? = some (.cells (encCf c) 26 (0, 0)) := (HPU.out.chg.block B (blk_lt HXB.out) (fun hk => by
          rcases hk with hk | hk
          · have h1 := HXB.out
            rw [hk, HBLK.out] at h1
            injection h1 with h1
            injection h1 with _ h2
            exact absurd h2 (by decide)
          · exact own_ne (HPc.out.p .tasks (by simp)).own HXB.out (by decide) hk.symm)).trans HXB.out
        obtain ⟨ρ', hP'⟩ := HPc.out.push (b := wd.heap.size) (lb := lb) HB6.out (by have := HBd.out.size; exact this) (by rw [HLB.out]; exact Nat.le_refl _)
          (by rw [HX6.out, ← HMC.out.1, ← HMC.out.2]; show _ = some (Obj.cells #[.int .i64 (mem i), .int .i64 (cost i), ptrV lb, .int .i64 (-1), .int .i64 0, V.cv i] 78 (0, 0)); rw [HCV.out i]; rfl) HL6.out HPU.out
        exact ⟨i + 1, ρ', _, by rw [show ((i : Int) + 1) = ((i + 1 : Nat) : Int) by omega], ⟨by have := HK.out; omega, by omega, NewP.mono hP' (fun k hk => by
          rcases hk with hk | hk
          · exact hk
          · exact Nat.le_trans (below_step HB.out HBc.out).size hk.1), hb8, hxb8, HCV.out⟩⟩
    · have p2 : ((i : Int) < (N : Int)) = False := eq_false (by omega)
      go_wp2
      refine bodyPost_ret (v := .tuple #[.pointer (some ⟨g, 0, none⟩), .int .i64 0]) (by simp [results, Tryz.results17, go_sem]) rfl ?_
      obtain rfl : i = N := by omega
      obtain ⟨K, hK⟩ := newP_end hN.1 HP.out
      exact ⟨g, K, rfl, HLE.out, hK, HB.out⟩
end Go.Proofs.YtbpoapfkeinjnaaGreatDoor.Ld
namespace Go.Proofs.YtbpoapfkeinjnaaGreatDoor.Ld
open Go.RowKit Go.Proofs.YtbpoapfkeinjnaaGreatDoorW.PrintWords Go.Proofs.YtbpoapfkeinjnaaGreatDoorW.PrintLast Go.Proofs.YtbpoapfkeinjnaaGreatDoorW.PrintMore
set_option linter.unusedVariables false
set_option linter.unusedSimpArgs false
set_option linter.unnecessarySimpa false
theorem Move.all {cs : List Int} {t t' : Tur} {cost : Int} (h : Move cs t t') (hi : TurInv t) (hn : t.l ≠ []) (hc : 1 ≤ cost ∧ cost ≤ 1048576) (hcs : ∀ i, i < t.l.length → cs.getD i 0 = cost) :
    (mAt t).credit < cost ∧ ∃ R : Int, 0 ≤ R ∧ t'.q = t.q ∧ t'.l.length = t.l.length ∧ t'.at_ = (((t.at_.toNat + 1) % t.l.length : Nat) : Int) ∧
    ∀ i, i < t.l.length → (mbs t'.l i).weight = (mbs t.l i).weight ∧ (mbs t'.l i).id = (mbs t.l i).id ∧ (R = 0 ∨ (mbs t.l i).credit + R * gainI t i < cost) ∧
      (mbs t'.l i).credit = (mbs t.l i).credit + R * gainI t i + (if (i : Int) = t'.at_ then gainI t i else 0) := by
  have hcr := h.credit hi hn (fun i hil => by rw [hcs i hil]; omega)
  obtain ⟨hno, R, hR0, hR1, hR, rfl⟩ := h
  have ha := hi.a
  have hat : t.at_ < t.l.length := by rcases ha.2 with h | ⟨_, h⟩; exact h; exact absurd h hn
  have hcA : cAt cs t = cost := by unfold cAt rd; exact hcs _ (by omega)
  have hz : zeroAt cs t = t := by unfold zeroAt; rw [if_neg (by omega)]
  rw [hz] at hR hcr ⊢
  obtain ⟨c1, c2, c3, c4⟩ := hcr
  refine ⟨?_, R, hR0, c1, c2, c3, fun i hil => ⟨(c4 i hil).1, (c4 i hil).2.1, ?_, ?_⟩⟩
  · have h4 : ¬ (0 < cAt cs t ∧ cAt cs t ≤ (mAt t).credit) := hno
    rw [hcA] at h4
    omega
  · have := hR i hil (by rw [hcs i hil]; omega)
    rw [hcs i hil] at this
    exact this
  · have hl2 : (onward (skipped cs R t)).l.length = t.l.length := by show (skipL t cs R).length = _; rw [skipL_len]
    have hat3 : (gained cs (onward (skipped cs R t))).at_ = (onward (skipped cs R t)).at_ := by unfold gained; split <;> rfl
    have hm2 : mbs (onward (skipped cs R t)).l i = { mbs t.l i with credit := (mbs t.l i).credit + R * gainI t i } := by
      have h := skipL_at t cs R i hil
      rw [if_pos (by rw [hcs i hil]; omega)] at h
      exact h
    have h0 : 0 ≤ (onward (skipped cs R t)).at_ := by rw [← hat3, c3]; omega
    rw [gained_mb _ _ h0, hat3, hl2]
    by_cases h1 : (i : Int) = (onward (skipped cs R t)).at_
    · have hcA2 : cAt cs (onward (skipped cs R t)) = cost := by unfold cAt rd; rw [← h1, Int.toNat_natCast]; exact hcs i hil
      rw [if_pos ⟨by omega, h1, hil⟩, if_pos h1, hm2]
      have hg : gainI (onward (skipped cs R t)) i = gainI t i := by unfold gainI; rw [hm2]; rfl
      rw [hg]
    · rw [if_neg (fun e => h1 e.2.1), if_neg h1, hm2]
      show (mbs t.l i).credit + R * gainI t i = (mbs t.l i).credit + R * gainI t i + 0
      omega
structure FairT (cost q : Int) (n : Nat) (wt : Nat → Int) (t : Tur) (got : Nat → Int) : Prop where
  fq : t.q = q
  len : t.l.length = n
  fwt : ∀ i, i < n → (mbs t.l i).weight = wt i
  fid : ∀ i, i < n → (mbs t.l i).id = (i : Int)
  sum : ∃ T : Int, ∀ i : Nat, i < n → got i + (mbs t.l i).credit = q * wt i * (if 0 < i ∧ (i : Int) ≤ t.at_ then T + 1 else T)
  lo : ∀ i : Nat, i < n → (i : Int) ≠ t.at_ → (mbs t.l i).credit < cost
  hi : ∀ i : Nat, i < n → (i : Int) = t.at_ → (mbs t.l i).credit < cost + q * wt i
theorem FairT.move {cost q : Int} {n : Nat} {wt got : Nat → Int} {cs : List Int} {t t' : Tur} (f : FairT cost q n wt t got) (h : Move cs t t') (hi : TurInv t) (hn : t.l ≠ []) (hc : 1 ≤ cost ∧ cost ≤ 1048576) (hcs : ∀ i, i < t.l.length → cs.getD i 0 = cost) : FairT cost q n wt t' got := by
  obtain ⟨h0, R, hR, c1, c2, c3, c4⟩ := h.all hi hn hc hcs
  have ha := hi.a
  have hat : t.at_ < t.l.length := by rcases ha.2 with h | ⟨_, h⟩; exact h; exact absurd h hn
  have hl := f.len
  obtain ⟨T, hT⟩ := f.sum
  have hg : ∀ i, i < n → gainI t i = q * wt i := fun i hil => by unfold gainI; rw [f.fq, f.fwt i hil]
  have hlo : ∀ i : Nat, i < n → (mbs t.l i).credit + R * gainI t i < cost := fun i hil => by
    rcases (c4 i (by omega)).2.2.1 with h | h
    · rw [h, Int.zero_mul]
      by_cases h1 : (i : Int) = t.at_
      · have : mAt t = mbs t.l i := by unfold mAt; rw [show t.at_.toNat = i by omega]
        rw [← this]; omega
      · have := f.lo i hil h1; omega
    · exact h
  have hat' : t'.at_ = if t.at_ + 1 < n then t.at_ + 1 else 0 := by
    rw [c3]
    by_cases h1 : t.at_ + 1 < n
    · rw [if_pos h1, Nat.mod_eq_of_lt (by omega)]; omega
    · rw [if_neg h1, show t.at_.toNat + 1 = t.l.length by omega, Nat.mod_self]; rfl
  refine ⟨c1.trans f.fq, c2.trans hl, fun i hil => (c4 i (by omega)).1.trans (f.fwt i hil), fun i hil => (c4 i (by omega)).2.1.trans (f.fid i hil), ?_, fun i hil h1 => ?_, fun i hil h1 => ?_⟩
  · refine ⟨if t.at_ + 1 < n then T + R else T + R + 1, fun i hil => ?_⟩
    rw [(c4 i (by omega)).2.2.2, hg i hil]
    have hs := hT i hil
    have key : ∀ a b : Int, got i + (mbs t.l i).credit = q * wt i * a → b = a + R + (if (i : Int) = t'.at_ then 1 else 0) → got i + ((mbs t.l i).credit + R * (q * wt i) + (if (i : Int) = t'.at_ then q * wt i else 0)) = q * wt i * b := fun a b h1 h2 => by
      rw [h2, Int.mul_add, Int.mul_add, ← h1, Int.mul_comm R]
      by_cases h3 : (i : Int) = t'.at_
      · rw [if_pos h3, if_pos h3, Int.mul_one]; omega
      · rw [if_neg h3, if_neg h3, Int.mul_zero]; omega
    refine key _ _ hs ?_
    rw [hat']
    by_cases h1 : t.at_ + 1 < n
    · rw [if_pos h1, if_pos h1]
      by_cases h2 : 0 < i ∧ (i : Int) ≤ t.at_
      · rw [if_pos h2, if_pos ⟨h2.1, by omega⟩, if_neg (by omega)]; omega
      · rw [if_neg h2]
        by_cases h3 : (i : Int) = t.at_ + 1
        · rw [if_pos ⟨by omega, by omega⟩, if_pos h3]
        · rw [if_neg (fun e => by omega), if_neg h3]; omega
    · rw [if_neg h1, if_neg h1]
      by_cases h2 : 0 < i ∧ (i : Int) ≤ t.at_
      · rw [if_pos h2, if_neg (by omega), if_neg (by omega)]; omega
      · rw [if_neg h2, if_neg (by omega)]
        have : i = 0 := by omega
        rw [if_pos (by omega)]
  · rw [(c4 i (by omega)).2.2.2, if_neg h1]
    have := hlo i hil
    omega
  · rw [(c4 i (by omega)).2.2.2, if_pos h1, hg i hil]
    have := hlo i hil
    rw [hg i hil] at this
    omega
theorem FairT.moves {cost q : Int} {n : Nat} {wt got : Nat → Int} {cs : List Int} {t t' : Tur} (f : FairT cost q n wt t got) (h : Moves cs t t') (hi : TurInv t) (hn : t.l ≠ []) (hc : 1 ≤ cost ∧ cost ≤ 1048576) (hcs : ∀ i, i < t.l.length → cs.getD i 0 = cost) : FairT cost q n wt t' got := by
  have hb : ∀ i, i < t.l.length → 0 ≤ cs.getD i 0 ∧ cs.getD i 0 ≤ 1048576 := fun i hil => by rw [hcs i hil]; omega
  induction h with
  | refl => exact f
  | step h k ih =>
    rename_i ta tb
    obtain ⟨s1, s2, _, _⟩ := h.same hi hn hb
    have hn1 : ta.l ≠ [] := fun e => hn (List.eq_nil_of_length_eq_zero (by rw [← s2, e]; rfl))
    exact ih.move k s1 hn1 hc (fun i hil => hcs i (by omega))
theorem FairT.took {cost q : Int} {n : Nat} {wt got : Nat → Int} {t : Tur} (f : FairT cost q n wt t got) (hc : 1 ≤ cost) {a : Nat} (ha : t.at_ = (a : Int)) (hal : a < n) : FairT cost q n wt (tookT t cost) (upf got a (got a + cost)) := by
  have hl := f.len
  have hm : ∀ i, mbs (tookT t cost).l i = if i = a then { mbs t.l a with credit := (mbs t.l a).credit - cost } else mbs t.l i := fun i => by
    show mbs (t.l.set _ _) i = _
    rw [mbs_set, ha, Int.toNat_natCast]
    by_cases h : i = a
    · subst h
      rw [if_pos ⟨rfl, by omega⟩, if_pos rfl]
      have : mAt t = mbs t.l i := by unfold mAt; rw [ha, Int.toNat_natCast]
      rw [this]
    · rw [if_neg (fun e => h e.1.symm), if_neg h]
  obtain ⟨T, hT⟩ := f.sum
  refine ⟨f.fq, by show (t.l.set _ _).length = _; rw [List.length_set]; exact hl, fun i hil => ?_, fun i hil => ?_, ⟨T, fun i hil => ?_⟩, fun i hil h1 => ?_, fun i hil h1 => ?_⟩
  · rw [hm]; by_cases h : i = a
    · subst h; rw [if_pos rfl]; exact f.fwt i hil
    · rw [if_neg h]; exact f.fwt i hil
  · rw [hm]; by_cases h : i = a
    · subst h; rw [if_pos rfl]; exact f.fid i hil
    · rw [if_neg h]; exact f.fid i hil
  · rw [hm]
    have hs := hT i hil
    have e : (tookT t cost).at_ = t.at_ := rfl
    rw [e, ← hs]
    by_cases h : i = a
    · subst h; rw [if_pos rfl, upf_same]; show got i + cost + ((mbs t.l i).credit - cost) = _; omega
    · rw [if_neg h, upf_far _ _ _ h]
  · have e : (tookT t cost).at_ = t.at_ := rfl
    rw [e, ha] at h1
    rw [hm, if_neg (fun e => h1 (by rw [e]))]
    exact f.lo i hil (by rw [ha]; exact h1)
  · have e : (tookT t cost).at_ = t.at_ := rfl
    rw [e, ha] at h1
    have h2 : i = a := by omega
    rw [hm, if_pos h2]
    have := f.hi a hal ha.symm
    subst h2
    show (mbs t.l i).credit - cost < _
    omega
theorem FairT.law {cost q : Int} {n : Nat} {wt got : Nat → Int} {t : Tur} (f : FairT cost q n wt t got) (hi : TurInv t) (hc : 1 ≤ cost) (hq : 1 ≤ q) (a b : Nat) (ha : a < n) (hb : b < n) (hw : ∀ i, i < n → 1 ≤ wt i) :
    got a * wt b ≤ (got b + (2 * q + cost) * wt b) * wt a := by
  have hl := f.len
  obtain ⟨T, hT⟩ := f.sum
  have sa := hT a ha
  have sb := hT b hb
  have c0 := (hi.c a (by omega)).1
  have wa := hw a ha
  have wb := hw b hb
  have hab : 0 ≤ q * (wt a * wt b) := Int.mul_nonneg (by omega) (Int.mul_nonneg (by omega) (by omega))
  have hcb : cost * wt a ≤ cost * wt b * wt a := by
    have := Int.mul_le_mul_of_nonneg_left (show 1 ≤ wt b from wb) (show 0 ≤ cost * wt a from Int.mul_nonneg (by omega) (by omega))
    rw [Int.mul_one] at this
    calc cost * wt a ≤ cost * wt a * wt b := this
      _ = cost * wt b * wt a := by rw [Int.mul_assoc, Int.mul_comm (wt a), ← Int.mul_assoc]
  obtain ⟨Ta, hTa⟩ : ∃ Ta : Int, (if 0 < a ∧ (a : Int) ≤ t.at_ then T + 1 else T) = Ta := ⟨_, rfl⟩
  obtain ⟨Tb, hTb⟩ : ∃ Tb : Int, (if 0 < b ∧ (b : Int) ≤ t.at_ then T + 1 else T) = Tb := ⟨_, rfl⟩
  rw [hTa] at sa
  rw [hTb] at sb
  have e1 : got a * wt b = q * (wt a * wt b) * Ta - (mbs t.l a).credit * wt b := by
    have : got a = q * wt a * Ta - (mbs t.l a).credit := by omega
    rw [this, Int.sub_mul]
    congr 1
    rw [Int.mul_right_comm, Int.mul_assoc q]
  have e2 : got b * wt a = q * (wt a * wt b) * Tb - (mbs t.l b).credit * wt a := by
    have : got b = q * wt b * Tb - (mbs t.l b).credit := by omega
    rw [this, Int.sub_mul]
    congr 1
    rw [Int.mul_right_comm, Int.mul_assoc q, Int.mul_comm (wt b)]
  have e3 : (got b + (2 * q + cost) * wt b) * wt a = got b * wt a + 2 * (q * (wt a * wt b)) + cost * wt b * wt a := by
    rw [Int.add_mul, Int.add_mul, Int.add_mul, Int.mul_assoc 2, Int.mul_assoc 2, Int.mul_assoc q, Int.mul_comm (wt b) (wt a)]
    omega
  have hca : 0 ≤ (mbs t.l a).credit * wt b := Int.mul_nonneg c0 (by omega)
  obtain ⟨P, hP⟩ : ∃ P, q * (wt a * wt b) = P := ⟨_, rfl⟩
  rw [hP] at e1 e2 e3 hab
  rw [e1, e3, e2]
  have step : ∀ x y : Int, x ≤ y → P * x ≤ P * y := fun x y h => Int.mul_le_mul_of_nonneg_left h hab
  by_cases h : (b : Int) = t.at_
  · have hcred := f.hi b hb h
    have hle : Ta ≤ Tb := by
      rw [← hTa, ← hTb]
      split <;> split <;> omega
    have h1 := step _ _ hle
    have h2 : (mbs t.l b).credit * wt a ≤ (cost + q * wt b) * wt a := Int.mul_le_mul_of_nonneg_right (by omega) (by omega)
    have h3 : (cost + q * wt b) * wt a = cost * wt a + P := by rw [Int.add_mul, ← hP, Int.mul_assoc q, Int.mul_comm (wt b)]
    omega
  · have hcred := f.lo b hb h
    have hle : Ta ≤ Tb + 1 := by
      rw [← hTa, ← hTb]
      split <;> split <;> omega
    have h1 := step _ _ hle
    rw [Int.mul_add, Int.mul_one] at h1
    have h2 : (mbs t.l b).credit * wt a ≤ cost * wt a := Int.mul_le_mul_of_nonneg_right (by omega) (by omega)
    omega
end Go.Proofs.YtbpoapfkeinjnaaGreatDoor.Ld
