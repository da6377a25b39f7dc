/- The engine of the yard and what it leans on, part 19. -/
import Derived.Test.YtbpoapfkeinjnaaGreatDoorK18
import Derived.Laws.CopyOwn
namespace Go.Proofs.YtbpoapfkeinjnaaGreatDoor.Ld
open Go.RowKit Go.Proofs.YtbpoapfkeinjnaaGreatDoorW.PrintWords Go.Proofs.YtbpoapfkeinjnaaGreatDoorW.PrintLast Go.Proofs.YtbpoapfkeinjnaaGreatDoorW.PrintMore
set_option linter.unusedVariables false
set_option linter.unusedSimpArgs false
set_option linter.unnecessarySimpa false
attribute [local go_sem] max2_int min2_int max_two min_two
theorem Reached.same {G : Gr} {x R R' : Nat} (h : Reached G x R) (h' : Reached G x R') (j : Nat) : R.testBit j = R'.testBit j := by
  have h1 : ∀ {R R' : Nat}, Reached G x R → Reached G x R' → ∀ j, R.testBit j = true → R'.testBit j = true := fun {R R'} h h' => h.least _ h'.self fun j _ hj k hk => h'.closed j hj k hk
  rw [Bool.eq_iff_iff]
  exact ⟨h1 h h' j, h1 h' h j⟩
noncomputable def rchB (G : Gr) (x y : Nat) : Bool := @decide (∃ R, Reached G x R ∧ R.testBit y = true) (Classical.propDecidable _)
theorem rchB_of {G : Gr} {x R : Nat} (h : Reached G x R) (y : Nat) : R.testBit y = rchB G x y := by
  unfold rchB
  rw [Bool.eq_iff_iff]
  refine Iff.trans ?_ (@decide_eq_true_iff _ (Classical.propDecidable _)).symm
  exact ⟨fun e => ⟨R, h, e⟩, fun ⟨R', h', e⟩ => by rw [h.same h' y]; exact e⟩
theorem Reaches_b (S : Nat → Prop) (g : Nat) (G : Gr) (x y : Nat) (w : World) (H : GrAt S w g G) (hv : GrInv G) (hx : x < G.N) (hy : y < G.N) (hT : TzTab w) :
    Calls Tryz.prog 103 #[.pointer (some ⟨g, 0, none⟩), .int .i64 (x : Int), .int .i64 (y : Int)] w fun e w' => e = .returned (.bool (rchB G x y)) ∧ Below w.heap.size w w' :=
  (Reaches_calls S g G x y w H hv hx hy hT).mono fun e w' h => ⟨by obtain ⟨⟨R, hr, he⟩, _⟩ := h; rw [he, rchB_of hr], h.2⟩
structure WEnv (S : Nat → Prop) (w : World) (b1 b2 b3 b4 g : Nat) (G : Gr) (A : Option Addr) (N c : Nat) (AR : Option Addr) (n cr : Nat) (i : Nat) (roots : List Int) : Prop where
  h1 : w.cell? ⟨b1, 0, none⟩ = some (.slice A N c)
  h2 : w.cell? ⟨b2, 0, none⟩ = some (.pointer (some ⟨g, 0, none⟩))
  h3 : w.cell? ⟨b3, 0, none⟩ = some (.slice AR n cr)
  h4 : w.cell? ⟨b4, 0, none⟩ = some (.int .i64 (i : Int))
  ri : RI w AR roots
  gr : GrAt S w g G
  tz : TzTab w
theorem WEnv.below {S : Nat → Prop} {w w' : World} {b1 b2 b3 b4 g : Nat} {G : Gr} {A : Option Addr} {N c : Nat} {AR : Option Addr} {n cr i : Nat} {roots : List Int} (h : WEnv S w b1 b2 b3 b4 g G A N c AR n cr i roots) (hb : Below w.heap.size w w') : WEnv S w' b1 b2 b3 b4 g G A N c AR n cr i roots :=
  ⟨pw_cell_below hb h.h1, pw_cell_below hb h.h2, pw_cell_below hb h.h3, pw_cell_below hb h.h4, ReadsOf.below h.ri hb, h.gr.keep (Keep.of_below hb), fun j hj => pw_cell_below hb (h.tz j hj)⟩
set_option maxHeartbeats 8000000 in
set_option maxRecDepth 100000 in
theorem wants1_calls (S : Nat → Prop) (x b1 b2 b3 b4 g : Nat) (G : Gr) (A : Option Addr) (N c : Nat) (AR : Option Addr) (n cr i rt : Nat) (roots : List Int) (w : World) (h : WEnv S w b1 b2 b3 b4 g G A N c AR n cr i roots) (hv : GrInv G) (hN : G.N = N) (hx : x < N) (hi : i < n) (hn : roots.length = n) (hn2 : n ≤ 1000) (hr : roots.getD i 0 = (rt : Int)) (hrt : rt < N) :
    Calls Tryz.prog 101 #[.int .i64 (x : Int), .pointer (some ⟨b1, 0, none⟩), .pointer (some ⟨b2, 0, none⟩), .pointer (some ⟨b3, 0, none⟩), .pointer (some ⟨b4, 0, none⟩)] w fun e w' => e = .returned (.bool (rchB G rt x)) ∧ Below w.heap.size w w' := by
  have H := Aside0.mk h
  have HV := Aside0.mk hv
  have hN64 := hv.N64
  obtain ⟨ad, rfl, d1⟩ := RI.at_ h.ri i (by rw [hn]; exact hi)
  rw [hr] at d1
  obtain ⟨e1, e2, e3, e4, _, _, _⟩ := h
  obtain ⟨rb, hrb⟩ : ∃ rb, rchB G rt x = rb := ⟨_, rfl⟩
  have HRB := Aside0.mk hrb
  rw [hrb]
  have HX := Aside0.mk (And.intro (show x < G.N by omega) (show rt < G.N by omega))
  have q1 : (0 ≤ (i : Int)) = True := eq_true (by omega)
  have q2 : ((i : Int) < (n : Int)) = True := eq_true (by omega)
  have QT := Aside0.mk (fun k => Calls.quiet_of ((there102 x N c A hx (by omega) (w.drewN k)).mono fun _ _ ⟨h1, h2⟩ => ⟨h1, h2.out⟩))
  clear hv hr hrb hn
  go_enter Tryz.func101, Tryz.ntmps101
  go_wp2
  refine Qt.wp_region_quiet_tail 10 (by kernel_rfl) (by kernel_rfl) ?_
  simp only [List.take_succ_cons, List.take_zero, List.drop_succ_cons, List.drop_zero]
  repeat (go_big_quiet_step ((go_at_call 102; exact QT.out _)))
  refine wpQuiet_nil ?_
  intro w9 hw9
  have HB9 := Aside0.mk (show Below w.heap.size w w9 from by obtain ⟨m, rfl⟩ := hw9; exact pw_below_drewN (Below.refl _ _) m)
  clear hw9
  go_wp2_with (go_at_call 103; go_loud (refine (Reaches_b S g G rt x _ (H.out.below HB9.out).gr HV.out HX.out.2 HX.out.1 (H.out.below HB9.out).tz).mono ?_); rintro e w2 ⟨rfl, hb⟩; rw [HRB.out]; have HB2 := Aside0.mk hb; clear hb)
  go_ret
  exact ⟨rfl, below_step HB9.out HB2.out⟩
end Go.Proofs.YtbpoapfkeinjnaaGreatDoor.Ld
namespace Go.Proofs.YtbpoapfkeinjnaaGreatDoor.Ld
open Go.RowKit Go.Proofs.YtbpoapfkeinjnaaGreatDoorW.PrintWords Go.Proofs.YtbpoapfkeinjnaaGreatDoorW.PrintLast Go.Proofs.YtbpoapfkeinjnaaGreatDoorW.PrintMore
set_option linter.unusedVariables false
set_option linter.unusedSimpArgs false
set_option linter.unnecessarySimpa false
attribute [local go_sem] max2_int min2_int max_two min_two
noncomputable def wantI (G : Gr) (rt : Nat) (tasks : List Nat) : Int := fndN (fun x => rchB G rt x) (fun i => tasks.getD i 0) tasks.length
theorem nats_getD (xs : List Nat) (i : Nat) (hi : i < xs.length) : (nats xs).getD i 0 = ((xs.getD i 0 : Nat) : Int) := by
  unfold nats
  rw [List.getD_eq_getElem?_getD, List.getElem?_map, List.getElem?_eq_getElem hi, List.getD_eq_getElem?_getD, List.getElem?_eq_getElem hi]
  rfl
theorem getD_mem (xs : List Nat) (i : Nat) (hi : i < xs.length) : xs.getD i 0 ∈ xs := by
  rw [List.getD_eq_getElem?_getD, List.getElem?_eq_getElem hi]
  exact List.getElem_mem hi
set_option maxHeartbeats 8000000 in
set_option maxRecDepth 100000 in
theorem wants_idx (S : Nat → Prop) (xs : List Nat) (k cp : Nat) (B : Option Addr) (b1 b2 b3 b4 g : Nat) (G : Gr) (A : Option Addr) (N c : Nat) (AR : Option Addr) (n cr i rt : Nat) (roots : List Int) (w : World) (hB : RI w B (nats xs)) (hk : xs.length = k) (hk2 : k ≤ 100) (hall : ∀ x, x ∈ xs → x < N)
    (h : WEnv S w b1 b2 b3 b4 g G A N c AR n cr i roots) (hv : GrInv G) (hN : G.N = N) (hi : i < n) (hn : roots.length = n) (hn2 : n ≤ 1000) (hr : roots.getD i 0 = (rt : Int)) (hrt : rt < N) :
    Calls Tryz.prog 100 #[.slice B k cp, .func (.func 101) #[] #[.pointer (some ⟨b1, 0, none⟩), .pointer (some ⟨b2, 0, none⟩), .pointer (some ⟨b3, 0, none⟩), .pointer (some ⟨b4, 0, none⟩)]] w fun e w' => e = .returned (.int .i64 (wantI G rt xs)) ∧ Below w.heap.size w w' := by
  have H := Aside0.mk h
  have HV := Aside0.mk hv
  have HBR := Aside0.mk hB
  have HK := Aside0.mk hk
  have HALL := Aside0.mk hall
  have HNN := Aside0.mk (And.intro hN (And.intro hn (And.intro hr hrt)))
  obtain ⟨ri, hri⟩ : ∃ ri, wantI G rt xs = ri := ⟨_, rfl⟩
  have HRI := Aside0.mk hri
  rw [hri]
  clear h hv hB hk hall hN hn hr hri
  go_enter Tryz.func100, Tryz.ntmps100
  go_wp2
  go_loopg [8] (k + 1) (fun kq v8 wr => ∃ j : Nat, v8 = .int .i64 (j : Int) ∧ Aside0 (kq + j = k + 1 ∧ j ≤ k ∧ (∀ m, m < j → rchB G rt (xs.getD m 0) = false) ∧ Below w.heap.size w wr))
  case atStart => exact ⟨0, rfl, ⟨by omega, by omega, fun m hm => absurd hm (Nat.not_lt_zero _), Below.refl _ _⟩⟩
  case round =>
    obtain ⟨j, rfl, hA⟩ := hrel
    obtain ⟨hkq, hj, hno, hb⟩ := hA.out
    have HB := Aside0.mk hb
    have HNO := Aside0.mk hno
    have HKQ := Aside0.mk hkq
    clear hA hb hno hkq
    by_cases hlt : j < k
    · obtain ⟨ad, rfl, hcell⟩ := RI.at_ (ReadsOf.below HBR.out HB.out) j (by rw [nats_len, HK.out]; exact hlt)
      rw [nats_getD _ _ (by rw [HK.out]; exact hlt)] at hcell
      have hxm := HALL.out _ (getD_mem xs j (by rw [HK.out]; exact hlt))
      obtain ⟨x, hx⟩ : ∃ x, xs.getD j 0 = x := ⟨_, rfl⟩
      rw [hx] at hcell hxm
      have HX := Aside0.mk hx
      obtain ⟨rb, hrb⟩ : ∃ rb, rchB G rt x = rb := ⟨_, rfl⟩
      have HRB := Aside0.mk hrb
      have p1 : (0 ≤ (j : Int)) = True := eq_true (by omega)
      have p2 : ((j : Int) < (k : Int)) = True := eq_true (by omega)
      clear hx hrb
      cases rb
      · go_wp2_with (go_at_call 101; go_loud (refine (wants1_calls S x b1 b2 b3 b4 g G A N c AR n cr i rt roots _ (H.out.below HB.out) HV.out HNN.out.1 hxm hi HNN.out.2.1 hn2 HNN.out.2.2.1 hrt).mono ?_); rintro e w2 ⟨rfl, hd2⟩; rw [HRB.out]; have HB2 := Aside0.mk (below_step HB.out hd2); clear hd2)
        go_roundg (gk - 1)
        case measure => have := HKQ.out; omega
        case rel =>
          refine ⟨j + 1, by rw [show ((j : Int) + 1) = ((j + 1 : Nat) : Int) by omega], ⟨by have := HKQ.out; omega, by omega, fun m hm => ?_, HB2.out⟩⟩
          rcases Nat.lt_succ_iff_lt_or_eq.1 hm with h | rfl
          · exact HNO.out m h
          · rw [HX.out]; exact HRB.out
      · go_wp2_with (go_at_call 101; go_loud (refine (wants1_calls S x b1 b2 b3 b4 g G A N c AR n cr i rt roots _ (H.out.below HB.out) HV.out HNN.out.1 hxm hi HNN.out.2.1 hn2 HNN.out.2.2.1 hrt).mono ?_); rintro e w2 ⟨rfl, hd2⟩; rw [HRB.out]; have HB2 := Aside0.mk (below_step HB.out hd2); clear hd2)
        go_ret
        have hv := fndN_some (q := fun x => rchB G rt x) (p := fun i => xs.getD i 0) (n := xs.length) (i := j) (by rw [HK.out]; exact hlt) (by show rchB G rt (xs.getD j 0) = true; rw [HX.out]; exact HRB.out) HNO.out
        have hw := HRI.out
        unfold wantI at hw
        rw [hv] at hw
        exact ⟨by rw [← hw]; rfl, HB2.out⟩
    · have p2 : ((j : Int) < (k : Int)) = False := eq_false (by omega)
      go_wp2
      go_ret
      have hv := fndN_none (q := fun x => rchB G rt x) (p := fun i => xs.getD i 0) (n := xs.length) (fun m hm => HNO.out m (by have := HK.out; omega))
      have hw := HRI.out
      unfold wantI at hw
      rw [hv] at hw
      exact ⟨by rw [← hw]; rfl, HB.out⟩
noncomputable def wantF (G : Gr) (tasks : List Nat) (rt : Nat → Nat) (i : Nat) : Option Nat := if wantI G (rt i) tasks < 0 then none else some (tasks.getD (wantI G (rt i) tasks).toNat 0)
noncomputable def wantsL (G : Gr) (tasks : List Nat) (rt : Nat → Nat) (ids : Nat → Int) (cost : Nat → Int) (n : Nat) : List Wt := (List.range n).filterMap fun i => (wantF G tasks rt i).map fun t => ⟨ids i, cost t⟩
noncomputable def ownL (G : Gr) (tasks : List Nat) (rt : Nat → Nat) (n : Nat) : List Nat := (List.range n).filterMap fun i => wantF G tasks rt i
theorem wants_len (G : Gr) (tasks : List Nat) (rt : Nat → Nat) (ids cost : Nat → Int) (n : Nat) : (wantsL G tasks rt ids cost n).length = (ownL G tasks rt n).length ∧ (ownL G tasks rt n).length ≤ n := by
  induction n with
  | zero => exact ⟨rfl, Nat.le_refl _⟩
  | succ n ih =>
    unfold wantsL ownL at *
    rw [List.range_succ, List.filterMap_append, List.filterMap_append, List.length_append, List.length_append]
    cases h : wantF G tasks rt n <;> simp [h] <;> omega
theorem wantsL_succ (G : Gr) (tasks : List Nat) (rt : Nat → Nat) (ids cost : Nat → Int) (n : Nat) :
    (wantF G tasks rt n = none → wantsL G tasks rt ids cost (n + 1) = wantsL G tasks rt ids cost n ∧ ownL G tasks rt (n + 1) = ownL G tasks rt n) ∧
    (∀ t, wantF G tasks rt n = some t → wantsL G tasks rt ids cost (n + 1) = wantsL G tasks rt ids cost n ++ [⟨ids n, cost t⟩] ∧ ownL G tasks rt (n + 1) = ownL G tasks rt n ++ [t]) := by
  unfold wantsL ownL
  rw [List.range_succ, List.filterMap_append, List.filterMap_append]
  exact ⟨fun h => by simp [h], fun t h => by simp [h]⟩
end Go.Proofs.YtbpoapfkeinjnaaGreatDoor.Ld
namespace Go.Proofs.YtbpoapfkeinjnaaGreatDoor.Ld
open Go.RowKit Go.Proofs.YtbpoapfkeinjnaaGreatDoorW.PrintWords Go.Proofs.YtbpoapfkeinjnaaGreatDoorW.PrintLast Go.Proofs.YtbpoapfkeinjnaaGreatDoorW.PrintMore
set_option linter.unusedVariables false
set_option linter.unusedSimpArgs false
set_option linter.unnecessarySimpa false
attribute [local go_sem] max2_int min2_int max_two min_two
theorem info112 : (Tryz.prog.info? 112).map (fun i => (i.zero, i.size, i.bytes)) = some (some (.agg #[.int .i64 0, .int .i64 0]), 2, 16) := by kernel_rfl
theorem wantI_cases (G : Gr) (rt : Nat) (xs : List Nat) : wantI G rt xs = -1 ∨ ∃ j : Nat, wantI G rt xs = (j : Int) ∧ j < xs.length := by
  unfold wantI
  rcases fndN_cases (fun x => rchB G rt x) (fun i => xs.getD i 0) xs.length with ⟨h, _⟩ | ⟨i, h, hi, _⟩
  · exact .inl h
  · exact .inr ⟨i, h, hi⟩
def NewR (w : World) (t : TypeId) (sz : Nat) (v : Value) (n : Nat) (xs : List Value) (w' : World) : Prop := RowAt (fun k => w.heap.size ≤ k) w' t sz v n xs ∧ Below w.heap.size w w'
theorem NewR.on {w w' w2 : World} {t : TypeId} {sz n : Nat} {v : Value} {xs : List Value} (h : NewR w t sz v n xs w') (hb : Below w'.heap.size w' w2) : NewR w t sz v n xs w2 := ⟨h.1.keep (Keep.of_below hb), below_step h.2 hb⟩
theorem NewR.behind {w w0 w' : World} {t : TypeId} {sz n : Nat} {v : Value} {xs : List Value} (h : NewR w0 t sz v n xs w') (hb : Below w.heap.size w w0) : NewR w t sz v n xs w' := ⟨⟨h.1.own, fun k hk => Nat.le_trans hb.size (h.1.fp k hk)⟩, below_step hb h.2⟩
theorem newr_more {w w1 w6 : World} {t : TypeId} {sz n n' : Nat} {v v6 : Value} {xs ys : List Value} (h : NewR w t sz v n xs w1) (ho : w6.ownsRow 0 t sz v6 n' ys) (hg : w1.grownBy w6 v.ownBlock)
    (hat : v6.ownBlock = v.ownBlock ∨ ∃ b, v6.ownBlock = some b ∧ w1.heap.size ≤ b) : NewR w t sz v6 n' ys w6 := by
  have hc := (Chg.refl (fun k => w.heap.size ≤ k) w1).grown hg (fun k hk => h.1.fp k hk)
  refine ⟨⟨ho, fun k hk => ?_⟩, Chg.to_below h.2 hc (fun i hi => hi)⟩
  rcases hat with hat | ⟨b, hat, hle⟩
  · exact h.1.fp k (hat ▸ hk)
  · rw [hat] at hk; injection hk with hk; have := h.2.size; omega
theorem own_cells {w : World} {b : Nat} {e : TypeId} {sz n : Nat} {v : Value} {xs : List Value} (h : w.ownsRow b e sz v n xs) (k : Nat) (hk : v.ownBlock = some k) : ∃ cs, w.heap[k]? = some (.cells cs e (0, 0)) := by
  rcases h.2 with ⟨rfl, _⟩ | ⟨g, cap, cur, rfl, _, hh, _⟩
  · cases hk
  · have : g = k := by simpa [Value.ownBlock] using hk
    exact this ▸ ⟨_, hh⟩
theorem newr_beside {w w1 w6 : World} {t t2 : TypeId} {sz sz2 n n2 : Nat} {v v2 : Value} {xs xs2 : List Value} (h : NewR w t sz v n xs w1) (h2 : NewR w t2 sz2 v2 n2 xs2 w1) (hne : t2 ≠ t) (hg : w1.grownBy w6 v.ownBlock) (hb : Below w.heap.size w w6) : NewR w t2 sz2 v2 n2 xs2 w6 := by
  refine ⟨⟨own_same h2.1.own fun k hk => ?_, h2.1.fp⟩, hb⟩
  refine hg.block k (own_lt h2.1.own k hk) (fun e => ?_)
  obtain ⟨c, hc⟩ := own_cells h.1.own k e.symm
  exact own_ne h2.1.own hc hne hk.symm
theorem size_alloc (w : World) (o : Obj) : (w.alloc o).heap.size = w.heap.size + 1 := by simp
theorem boxes3 (w : World) (v1 v2 v3 : Value) (t1 t2 t3 : TypeId) :
    (((w.alloc (.cells #[v1] t1)).alloc (.cells #[v2] t2)).alloc (.cells #[v3] t3)).cell? ⟨w.heap.size, 0, none⟩ = some v1 ∧
    (((w.alloc (.cells #[v1] t1)).alloc (.cells #[v2] t2)).alloc (.cells #[v3] t3)).cell? ⟨w.heap.size + 1, 0, none⟩ = some v2 ∧
    (((w.alloc (.cells #[v1] t1)).alloc (.cells #[v2] t2)).alloc (.cells #[v3] t3)).cell? ⟨w.heap.size + 2, 0, none⟩ = some v3 := by
  have h1 := heap_alloc_new w (.cells #[v1] t1)
  have h2 := heap_alloc_new (w.alloc (.cells #[v1] t1)) (.cells #[v2] t2)
  have h3 := heap_alloc_new ((w.alloc (.cells #[v1] t1)).alloc (.cells #[v2] t2)) (.cells #[v3] t3)
  have b1 := below_alloc (Below.refl (w.alloc (.cells #[v1] t1)).heap.size (w.alloc (.cells #[v1] t1))) (.cells #[v2] t2)
  have b2 := below_alloc (Below.refl ((w.alloc (.cells #[v1] t1)).alloc (.cells #[v2] t2)).heap.size ((w.alloc (.cells #[v1] t1)).alloc (.cells #[v2] t2))) (.cells #[v3] t3)
  rw [size_alloc] at h2 h3
  rw [size_alloc] at h3
  exact ⟨(blk_cell (blk_below (blk_below h1 b1) b2) 0).trans rfl, (blk_cell (blk_below h2 b2) 0).trans rfl, (blk_cell h3 0).trans rfl⟩
set_option maxHeartbeats 8000000 in
set_option maxRecDepth 100000 in
theorem Wants_calls (S : Nat → Prop) (g : Nat) (G : Gr) (A B AI AR : Option Addr) (N c k cp n ci cr : Nat) (mem cost : Nat → Int) (xs : List Nat) (ids roots : List Int) (rt : Nat → Nat) (w : World) (H : GrAt S w g G) (hv : GrInv G) (hN : G.N = N) (ht : Tds w A N mem cost) (hz : TzTab w)
    (hB : RI w B (nats xs)) (hk : xs.length = k) (hk2 : k ≤ 100) (hall : ∀ x, x ∈ xs → x < N) (hI : RI w AI ids) (hI2 : ids.length = n) (hI3 : n ≤ ci) (hR : RI w AR roots) (hR2 : roots.length = n) (hn2 : n ≤ 1000) (hA : 0 < n → ∃ a, AI = some a) (hci : ci ≤ 9223372036854775807)
    (hr : ∀ i, i < n → roots.getD i 0 = (rt i : Int) ∧ rt i < N) :
    Calls Tryz.prog 55 #[.pointer (some ⟨g, 0, none⟩), .slice B k cp, .slice A N c, .slice AI n ci, .slice AR n cr] w fun e w' => ∃ v1 v2, e = .returned (.tuple #[v1, v2]) ∧
      NewR w 112 2 v1 (ownL G xs rt n).length (flat encWt (wantsL G xs rt (fun i => ids.getD i 0) cost n)) w' ∧ NewR w 3 1 v2 (ownL G xs rt n).length (ints (nats (ownL G xs rt n))) w' := by
  have HG := Aside0.mk H
  have HV := Aside0.mk hv
  have HT := Aside0.mk ht
  have HZ := Aside0.mk hz
  have HB := Aside0.mk hB
  have HK := Aside0.mk hk
  have HALL := Aside0.mk hall
  have HI := Aside0.mk hI
  have HR := Aside0.mk hR
  have HL := Aside0.mk (And.intro hN (And.intro hI2 hR2))
  have HRT := Aside0.mk hr
  have HBW := Aside0.mk (below_alloc (below_alloc (below_alloc (Below.refl _ w) (.cells #[.pointer (some ⟨g, 0, none⟩)] 66)) (.cells #[.slice A N c] 27)) (.cells #[.slice AR n cr] 22))
  clear H hv ht hz hB hk hall hI hR hN hI2 hR2 hr
  go_enter Tryz.func55, Tryz.ntmps55
  go_wp2
  obtain ⟨e5, e7, e9⟩ := boxes3 w (.pointer (some ⟨g, 0, none⟩)) (.slice A N c) (.slice AR n cr) 66 27 22
  generalize hw0 : ((w.alloc (.cells #[.pointer (some ⟨g, 0, none⟩)] 66)).alloc (.cells #[.slice A N c] 27)).alloc (.cells #[.slice AR n cr] 22) = w0 at *
  clear hw0
  go_loopg [10, 11, 24] (n + 1) (fun kq v10 v11 v24 wr => ∃ i : Nat, v24 = .int .i64 (i : Int) ∧ Aside0 (kq + i = n + 1 ∧ i ≤ n ∧ NewR w0 112 2 v10 (ownL G xs rt i).length (flat encWt (wantsL G xs rt (fun i => ids.getD i 0) cost i)) wr ∧ NewR w0 3 1 v11 (ownL G xs rt i).length (ints (nats (ownL G xs rt i))) wr))
  case atStart => exact ⟨0, rfl, ⟨by omega, by omega, ⟨RowAt.nil _ _ _ _, Below.refl _ _⟩, ⟨RowAt.nil _ _ _ _, Below.refl _ _⟩⟩⟩
  case round =>
    obtain ⟨i, rfl, hA⟩ := hrel
    obtain ⟨hkq, hi, hr1, hr2⟩ := hA.out
    have hb := hr1.2
    have HKQ := Aside0.mk hkq
    have HR1 := Aside0.mk hr1
    have HR2 := Aside0.mk hr2
    have HB0 := Aside0.mk (below_step HBW.out hb)
    have d5 := pw_cell_below hb e5
    have d7 := pw_cell_below hb e7
    have d9 := pw_cell_below hb e9
    clear hA hkq hr1 hr2 hb e5 e7 e9
    by_cases hlt : i < n
    · obtain ⟨ad, rfl, hcell⟩ := RI.at_ (ReadsOf.below HI.out HB0.out) i (by rw [HL.out.2.1]; exact hlt)
      obtain ⟨idv, hidv⟩ : ∃ idv, ids.getD i 0 = idv := ⟨_, rfl⟩
      rw [hidv] at hcell
      have HIDV := Aside0.mk hidv
      have hw1 := wantsL_succ G xs rt (fun i => ids.getD i 0) cost i
      have HS := Aside0.mk hw1
      have hq := wantI_cases G (rt i) xs
      obtain ⟨q, hqq⟩ : ∃ q, wantI G (rt i) xs = q := ⟨_, rfl⟩
      rw [hqq] at hq
      have HQ := Aside0.mk hqq
      have p1 : (0 ≤ (i : Int)) = True := eq_true (by omega)
      have p2 : ((i : Int) < (n : Int)) = True := eq_true (by omega)
      have HE : Aside0 (∀ W, Below wr.heap.size wr W → W.cell? ⟨wr.heap.size, 0, none⟩ = some (.int .i64 (i : Int)) → WEnv S W (w.heap.size + 1) w.heap.size (w.heap.size + 2) wr.heap.size g G A N c AR n cr i roots) := ⟨fun W hW hc => by
        have hbw := below_step HB0.out hW
        exact ⟨pw_cell_below hW d7, pw_cell_below hW d5, pw_cell_below hW d9, hc, ReadsOf.below HR.out hbw, HG.out.keep (Keep.of_below hbw), fun j hj => pw_cell_below hbw (HZ.out j hj)⟩⟩
      have HNEW : Aside0 (Below wr.heap.size wr (wr.alloc (.cells #[.int .i64 (i : Int)] 3)) ∧ (wr.alloc (.cells #[.int .i64 (i : Int)] 3)).cell? ⟨wr.heap.size, 0, none⟩ = some (.int .i64 (i : Int))) := ⟨⟨below_alloc (Below.refl wr.heap.size wr) _, (blk_cell (heap_alloc_new wr (.cells #[.int .i64 (i : Int)] 3)) 0).trans rfl⟩⟩
      have HRT2 := Aside0.mk (HRT.out i hlt)
      have HX7 := Aside0.mk d7
      clear hidv hw1 hqq d5 d7 d9
      rcases hq with rfl | ⟨j, rfl, hj⟩
      · go_wp2_with (go_at_call 100; go_loud (refine (wants_idx S xs k cp B (w.heap.size + 1) w.heap.size (w.heap.size + 2) wr.heap.size g G (A) N c AR n cr i (rt i) roots _ (ReadsOf.below HB.out (below_step HB0.out HNEW.out.1)) HK.out hk2 HALL.out (HE.out _ HNEW.out.1 HNEW.out.2) HV.out HL.out.1 hlt HL.out.2.2 hn2 HRT2.out.1 HRT2.out.2).mono ?_); rintro e w2 ⟨rfl, hd2⟩; rw [HQ.out]; have HB2 := Aside0.mk (below_step HNEW.out.1 hd2); clear hd2)
        have hnone : wantF G xs rt i = none := by unfold wantF; rw [HQ.out]; rfl
        have HS1 := Aside0.mk (HS.out.1 hnone)
        go_roundg (gk - 1)
        case measure => have := HKQ.out; omega
        case rel => exact ⟨i + 1, by rw [show ((i : Int) + 1) = ((i + 1 : Nat) : Int) by omega], ⟨by have := HKQ.out; omega, by omega, by rw [HS1.out.1, HS1.out.2]; exact HR1.out.on HB2.out, by rw [HS1.out.2]; exact HR2.out.on HB2.out⟩⟩
      · obtain ⟨t, htt⟩ : ∃ t, xs.getD j 0 = t := ⟨_, rfl⟩
        have htN : t < N := by rw [← htt]; exact HALL.out _ (getD_mem xs j hj)
        have hsome : wantF G xs rt i = some t := by unfold wantF; rw [HQ.out, if_neg (by omega), Int.toNat_natCast, htt]
        have HS1 := Aside0.mk (HS.out.2 t hsome)
        rw [HK.out] at hj
        have p3 : (0 ≤ (j : Int)) = True := eq_true (by omega)
        have p4 : ((j : Int) < (k : Int)) = True := eq_true (by omega)
        have p5 : (0 ≤ (t : Int)) = True := eq_true (by omega)
        have p6 : ((t : Int) < (N : Int)) = True := eq_true (by omega)
        obtain ⟨bd, rfl, hbc⟩ := RI.at_ HB.out j (by rw [nats_len, HK.out]; exact hj)
        rw [nats_getD _ _ (by rw [HK.out]; exact hj), htt] at hbc
        obtain ⟨td, rfl, tc1, tc2⟩ := HT.out.at_ t htN
        have HC := Aside0.mk (And.intro hbc tc2)
        clear hsome htt hbc tc1 tc2
        go_wp2_with (first
          | (go_at_call 100; go_loud (refine (wants_idx S xs k cp (some bd) (w.heap.size + 1) w.heap.size (w.heap.size + 2) wr.heap.size g G (some td) N c AR n cr i (rt i) roots _ (ReadsOf.below HB.out (below_step HB0.out HNEW.out.1)) HK.out hk2 HALL.out (HE.out _ HNEW.out.1 HNEW.out.2) HV.out HL.out.1 hlt HL.out.2.2 hn2 HRT2.out.1 HRT2.out.2).mono ?_); rintro e w2 ⟨rfl, hd2⟩; rw [HQ.out]; have HB2 := Aside0.mk (below_step HNEW.out.1 hd2); have hbd := pw_cell_below (below_step HB0.out HB2.out) HC.out.1; have htd := pw_cell_below (below_step HB0.out HB2.out) HC.out.2; have h7 := pw_cell_below HB2.out HX7.out; have HR1b := Aside0.mk (HR1.out.on HB2.out); have HR2b := Aside0.mk (HR2.out.on HB2.out); clear hd2)
          | (at_builtin; (refine print_append_cells (w0 := w2) (W := w2) 0 rfl (.tmp 38) (.tmp 46) 105 112 (.agg #[.int .i64 0, .int .i64 0]) 2 16 rfl Tryz.underlying105 info112 rfl (by decide) (by decide) u10 (ownL G xs rt i).length (flat encWt (wantsL G xs rt (fun i => ids.getD i 0) cost i)) [.int .i64 idv, .int .i64 (cost t)] rfl rfl rfl (by simp [Value.oneCell']) HR1b.out.1.own (Below.refl _ _) (Nat.zero_le _) ?h2 ?_); (case h2 => have := (wants_len G xs rt (fun i => ids.getD i 0) cost i).2; omega); (intro v6 w6 ho6 hb6 hg6 hat6; have HN6 := Aside0.mk (newr_more HR1b.out ho6 hg6 hat6); have HM6 := Aside0.mk (newr_beside HR1b.out HR2b.out (by decide) hg6 HN6.out.2); clear ho6 hb6 hg6 hat6))
          | (at_builtin; go_loud (refine print_append_of (w0 := w6) (W := w6) (Value.int .i64) 0 rfl (.tmp 48) (.tmp 50) 22 3 (.int .i64 0) 8 rfl Tryz.underlying22 info3 rfl (by decide) u11 (nats (ownL G xs rt i)) (t : Int) rfl rfl rfl (by rw [nats_len]; exact HM6.out.1.own) (Below.refl _ _) (Nat.zero_le _) ?h2 ?_); (case h2 => rw [nats_len]; have := (wants_len G xs rt (fun i => ids.getD i 0) cost i).2; omega); (intro v7 w7 ho7 hb7 hg7 hat7; have HN7 := Aside0.mk (newr_more HM6.out ho7 hg7 hat7); have HM7 := Aside0.mk (newr_beside HM6.out HN6.out (by decide) hg7 HN7.out.2); clear ho7 hb7 hg7 hat7)))
        go_roundg (gk - 1)
        case measure => have := HKQ.out; omega
        case rel =>
          have e1 : flat encWt (wantsL G xs rt (fun i => ids.getD i 0) cost i) ++ [.int .i64 idv, .int .i64 (cost t)] = flat encWt (wantsL G xs rt (fun i => ids.getD i 0) cost i ++ [⟨ids.getD i 0, cost t⟩]) := by rw [flat_append, HIDV.out]; rfl
          have e2 : nats (ownL G xs rt i) ++ [(t : Int)] = nats (ownL G xs rt i ++ [t]) := by unfold nats; rw [List.map_append]; rfl
          refine ⟨i + 1, by rw [show ((i : Int) + 1) = ((i + 1 : Nat) : Int) by omega], ⟨by have := HKQ.out; omega, by omega, ?_, ?_⟩⟩
          · rw [HS1.out.1, HS1.out.2, List.length_append, ← e1]; exact HM7.out
          · rw [HS1.out.2, List.length_append, ← e2]; have h := HN7.out; rw [List.length_append, nats_len] at h; exact h
    · have p2 : ((i : Int) < (n : Int)) = False := eq_false (by omega)
      go_wp2
      go_ret2
      obtain rfl : i = n := by omega
      exact ⟨_, _, rfl, HR1.out.behind HBW.out, HR2.out.behind HBW.out⟩
end Go.Proofs.YtbpoapfkeinjnaaGreatDoor.Ld
namespace Go.Proofs.YtbpoapfkeinjnaaGreatDoor.Ld
open Go.RowKit Go.Proofs.YtbpoapfkeinjnaaGreatDoorW.PrintWords Go.Proofs.YtbpoapfkeinjnaaGreatDoorW.PrintLast Go.Proofs.YtbpoapfkeinjnaaGreatDoorW.PrintMore
set_option linter.unusedVariables false
set_option linter.unusedSimpArgs false
set_option linter.unnecessarySimpa false
attribute [local go_sem] max2_int min2_int max_two min_two
def rep (x : Int) (N j : Nat) : List Value := List.replicate j (.int .i64 x) ++ List.replicate (N - j) (.int .i64 0)
theorem rep_length (x : Int) (N j : Nat) (h : j ≤ N) : (rep x N j).length = N := by unfold rep; rw [List.length_append, List.length_replicate, List.length_replicate]; omega
theorem rep_splice (x : Int) (N j m : Nat) (h : j + m ≤ N) : splice (rep x N j) j (List.replicate m (.int .i64 x)) = rep x N (j + m) := by
  unfold splice rep
  rw [List.take_left' (List.length_replicate ..), List.length_replicate, List.drop_append, List.length_replicate, List.drop_eq_nil_of_le (by simp), List.nil_append, List.drop_replicate, ← List.append_assoc, List.replicate_append_replicate]
  congr 2
  omega
theorem rep_get (x : Int) (N j i : Nat) (h : i < j) : (rep x N j)[i]? = some (.int .i64 x) := by
  unfold rep
  rw [List.getElem?_append_left (by simpa using h), List.getElem?_replicate, if_pos h]
theorem wp_copy_rep {P : Program} {w : World} {ops : Array Oper} {rest : List Oper} {o : Oper} {a : Act} {Q : Exit → Act → World → Prop} (hgd : o.guard = none) (d s : Operand) (dT sT : TypeId)
    (ho : o.op = .call { callee := .builtin .copy, args := #[d, s], argTypes := #[dT, sT] }) (elem : TypeId) (hu : P.underlying dT = some (.slice elem)) (hsz : (P.info? elem).map (·.size) = some 1)
    (dp : Addr) (ad : Addr) (dLen dCap sLen sCap : Nat) (hd : a.eval d = .slice (some dp) dLen dCap) (hs : a.eval s = .slice (some ad) sLen sCap)
    (x : Int) (g j N m : Nat) (hg : w.heap[g]? = some (.cells (rep x N j).toArray 3 (0, 0))) (hm : m = Nat.min sLen dLen) (hjm : j + m ≤ N) (hdp : dp = ⟨g, j, none⟩)
    (hsrc : ∀ i, i < m → w.cell? (ad.add i) = some (.int .i64 x)) (B : Nat) (w0 : World) (hb : Below B w0 w) (hBg : B ≤ g)
    (h : ∀ w', Aside0 (w'.heap[g]? = some (.cells (rep x N (j + m)).toArray 3 (0, 0)) ∧ Below B w0 w') → wpList P ops Q rest (a.put o.dst (.int .i64 (m : Int))) w') :
    wpList P ops Q (o :: rest) a w := by
  have hl : (List.replicate m (Value.int .i64 x)).length = m := List.length_replicate ..
  refine wpList_copy_splice hgd d s dT sT ho elem hu hsz (some dp) (some ad) dLen dCap sLen sCap hd hs g j (rep x N j) 3 hg (List.replicate m (.int .i64 x)) (by rw [hl]; exact hm) (fun _ => ⟨by rw [hdp], ad, rfl, fun i v hv => ?_⟩) (by rw [hl, rep_length x N j (by omega)]; exact hjm) (fun v hv => by rw [(List.mem_replicate.1 hv).2]; rfl) B w0 hb hBg ?_
  · rw [List.getElem?_replicate] at hv
    by_cases hi : i < m
    · rw [if_pos hi] at hv; injection hv with hv; rw [← hv]; exact hsrc i hi
    · rw [if_neg hi] at hv; cases hv
  · intro w' h1 h2
    rw [hl]
    refine h w' ⟨?_, h2⟩
    have := h1.out
    rw [rep_splice x N j m hjm] at this
    exact this
theorem made_rep (x : Int) (N : Nat) : madeCells #[.int .i64 0] N = (rep x N 0).toArray := by
  unfold rep madeCells
  apply Array.ext
  · simp
  · intro i h1 h2
    simp at h1 h2 ⊢
    rw [Nat.mod_one]; rfl
set_option maxHeartbeats 8000000 in
set_option maxRecDepth 100000 in
theorem Repeat_calls (b1 : Nat) (x : Int) (N : Nat) (hN : 1 ≤ N) (hN2 : N ≤ 100) (w : World) (hc : w.cell? ⟨b1, 0, none⟩ = some (.int .i64 x)) :
    Calls Tryz.prog 91 #[.slice (some ⟨b1, 0, none⟩) 1 1, .int .i64 (N : Int)] w fun e w' => ∃ v, e = .returned v ∧ NewRow w v (List.replicate N x) w' := by
  have HC := Aside0.mk hc
  have a4 : IntKind.u64.wrap (N : Int) = (N : Int) := wraps64 _ (by omega) (by omega)
  have a5 : IntKind.i64.wrap (N : Int) = (N : Int) := IntWalk.i64_in _ ⟨by omega, by omega⟩
  have hmk := fun W : World => print_make_of (P := Tryz.prog) 22 3 (.int .i64 0) 8 Tryz.underlying22 info3 rfl (by decide) N (by omega) W
  clear hc
  go_enter Tryz.func91, Tryz.ntmps91
  go_upto_region 7 with (go_at_call 133; go_loud (refine (Mul_one N (by omega) _).mono ?_); rintro e w2 ⟨rfl, hd⟩; have HD := Aside0.mk hd; clear hd)
  refine wp_region_lit ?_
  refine wpList_plain rfl fun K hK => ?_
  simp [Oper.wp, execOp, Act.eval, Act.put]
  refine hK _ _ ?_
  refine wpList_plain rfl fun K hK => ?_
  simp [Oper.wp, execOp, Act.eval, Act.put]
  refine hK _ _ ?_
  refine wp_copy_rep rfl (.tmp 31) (.tmp 32) 22 22 rfl 3 Tryz.underlying22 (by kernel_rfl) ⟨w2.heap.size, 0, none⟩ ⟨b1, 0, none⟩ N N 1 1 rfl rfl x w2.heap.size 0 N 1 ?h1 ?h2 (by omega) rfl ?h3 w.heap.size w ?h4 ?h5 ?_
  case h1 => rw [made_rep x N]; exact heap_alloc_new w2 _
  case h2 => exact (Nat.min_eq_left hN).symm
  case h3 => intro i hi; obtain rfl : i = 0 := by omega
             exact pw_cell_below (below_alloc HD.out.below _) HC.out
  case h4 => exact below_alloc HD.out.below _
  case h5 => exact HD.out.below.size
  obtain ⟨b, hb⟩ : ∃ b, w2.heap.size = b := ⟨_, rfl⟩
  have HBB := Aside0.mk (hb ▸ HD.out.below.size)
  rw [hb]
  intro w3 HW
  clear hmk
  go_wp2
  go_loopg [8] (N + 1) (fun kq v8 wr => ∃ j : Nat, v8 = .int .i64 (j : Int) ∧ Aside0 (kq + j = N + 2 ∧ 1 ≤ j ∧ j ≤ N ∧ wr.heap[b]? = some (.cells (rep x N j).toArray 3 (0, 0)) ∧ Below w.heap.size w wr))
  case atStart => exact ⟨1, rfl, ⟨by omega, by omega, by omega, HW.out⟩⟩
  case round =>
    obtain ⟨j, rfl, hA⟩ := hrel
    obtain ⟨hkq, hj1, hj, hrow, hbw⟩ := hA.out
    have HKQ := Aside0.mk hkq
    have HROW := Aside0.mk hrow
    have HBW := Aside0.mk hbw
    clear hA hkq hrow hbw
    by_cases hlt : j < N
    · go_upto_region 9 with (fail)
      have p1 : (0 ≤ (j : Int)) = True := eq_true (by omega)
      have p2 : ((j : Int) ≤ (N : Int)) = True := eq_true (by omega)
      refine wp_region_any (by kernel_rfl) ?_
      refine wpAny_take (i := 0) (v := .int .i64 (j : Int)) rfl (by kernel_rfl) (by kernel_rfl) (by kernel_rfl) (fun _ _ _ h => h) (Or.inl ⟨rfl, fun w => rfl⟩) ?_
      refine Qt.wpAny_quiet_tail 7 ((List.range 6).map (· + 1)) (fun l => (l.drop 1).take 6) _ _ rfl rfl (by kernel_rfl) ?_
      simp only [List.take_succ_cons, List.take_zero, List.drop_succ_cons, List.drop_zero, List.cons_append, List.nil_append, Act.put, List.getElem_toArray, List.getElem_cons_succ, List.getElem_cons_zero, List.setIfInBounds_toArray, List.set_cons_succ, List.set_cons_zero]
      repeat (go_big_quiet_step ((fail)))
      refine wpQuiet_nil ?_
      intro w9 hw9
      have HB9 := Aside0.mk (show Below wr.heap.size wr w9 from by obtain ⟨m, rfl⟩ := hw9; exact pw_below_drewN (Below.drew (Below.refl _ wr)) m)
      clear hw9
      obtain ⟨m, hm⟩ : ∃ m, Nat.min j (N - j) = m := ⟨_, rfl⟩
      have hm1 : 1 ≤ m ∧ j + m ≤ N := by
        have h1 : m ≤ j := hm ▸ Nat.min_le_left _ _
        have h2 : m ≤ N - j := hm ▸ Nat.min_le_right _ _
        rcases Nat.le_total j (N - j) with h | h
        · have := (Nat.min_eq_left h).symm.trans hm; omega
        · have := (Nat.min_eq_right h).symm.trans hm; omega
      have HM := Aside0.mk hm
      clear hm
      refine wp_copy_rep rfl (.tmp 41) (.tmp 44) 22 22 rfl 3 Tryz.underlying22 (by kernel_rfl) ⟨b, j, none⟩ ⟨b, 0, none⟩ (N - j) (N - j) j N rfl rfl x b j N m ?h1 HM.out.symm (by omega) rfl ?h3 w.heap.size w ?h4 ?h5 ?_
      case h1 => exact blk_below HROW.out HB9.out
      case h3 =>
        intro i hi
        have hmj : m ≤ j := HM.out ▸ Nat.min_le_left _ _
        rw [show (⟨b, 0, none⟩ : Addr).add i = ⟨b, i, none⟩ from by unfold Addr.add; split <;> simp_all]
        refine (blk_cell (blk_below HROW.out HB9.out) i).trans ?_
        rw [List.getElem?_toArray]
        exact rep_get x N j i (by omega)
      case h4 => exact below_step HBW.out HB9.out
      case h5 => exact HBB.out
      intro w10 HW
      go_wp2
      go_roundg (N + 2 - (j + m))
      case measure => have := HKQ.out; omega
      case rel => exact ⟨j + m, by rw [show ((j : Int) + (m : Int)) = ((j + m : Nat) : Int) by omega], ⟨by omega, by omega, by omega, HW.out⟩⟩
    · have p2 : ((j : Int) < (N : Int)) = False := eq_false (by omega)
      go_wp2
      go_ret
      obtain rfl : j = N := by omega
      have hlen : (List.replicate j x).length = j := List.length_replicate ..
      unfold NewRow
      rw [hlen]
      refine ⟨.slice (some ⟨b, 0, none⟩) j j, rfl, ⟨⟨?_, .inr ⟨b, j, (rep x j j).toArray, rfl, Nat.zero_le _, HROW.out, by simp, by simp [maxLen]; omega, by rw [List.size_toArray, rep_length x j j (Nat.le_refl _), Nat.mul_one], ?_⟩⟩, fun k hk => ?_⟩, HBW.out⟩
      · unfold ints; rw [encs_length, hlen, Nat.mul_one]
      · unfold rep ints
        simp [encs]
      · injection hk with hk
        exact hk ▸ HBB.out
end Go.Proofs.YtbpoapfkeinjnaaGreatDoor.Ld
