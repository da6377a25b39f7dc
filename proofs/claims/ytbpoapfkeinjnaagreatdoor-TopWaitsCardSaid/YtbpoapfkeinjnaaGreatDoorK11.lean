/- The engine of the yard and what it leans on, part 11. -/
import Derived.Test.YtbpoapfkeinjnaaGreatDoorK10
namespace Go.Proofs.YtbpoapfkeinjnaaGreatDoor.Ld
open Go.RowKit Go.Proofs.YtbpoapfkeinjnaaGreatDoorW.PrintWords Go.Proofs.YtbpoapfkeinjnaaGreatDoorW.PrintLast Go.Proofs.YtbpoapfkeinjnaaGreatDoorW.PrintMore
set_option linter.unusedVariables false
set_option linter.unusedSimpArgs false
attribute [local go_sem] max2_int min2_int max_two min_two
def hpNew (n : Nat) : Hp := ⟨[], List.replicate n (-1), List.replicate n 0⟩
theorem getD_rep (n : Nat) (x : Int) (j : Nat) (hj : j < n) : (List.replicate n x).getD j 0 = x := by
  rw [List.getD_eq_getElem?_getD, List.getElem?_replicate, if_pos hj]; rfl
theorem hpNew_inv (n : Nat) : HpInv (hpNew n) where
  len := by simp [hpNew]
  l1 := fun i hi => by simp [hpNew] at hi
  l2 := fun j hj => .inl (getD_rep n _ j (by simpa [hpNew] using hj))
  cnt := by
    have h : sumTo (onN (hpNew n)) (hpNew n).at_.length = 0 := by
      have := sumTo_bd (f := onN (hpNew n)) (n := (hpNew n).at_.length) (B := 0) (fun i hi => by
        unfold onN
        rw [show (hpNew n).at_.getD i 0 = -1 from getD_rep n _ i (by simpa [hpNew] using hi)]
        exact Nat.le_refl _)
      omega
    rw [h]; rfl
theorem hpNew_off (n : Nat) (x : Nat) (hx : x < n) : ¬ (hpNew n).on x := by
  unfold Hp.on
  rw [show (hpNew n).at_.getD x 0 = -1 from getD_rep n _ x hx]
  decide
theorem hp_row (w : World) (S : Nat → Prop) (n : Nat) (hn : n ≤ 800) (hS : S w.heap.size) : RowAt S (w.alloc (.cells (madeCells #[.int .i64 0] n) 3)) 3 1 (.slice (some ⟨w.heap.size, 0, none⟩) n n) n (ints (List.replicate n 0)) :=
  ⟨own_made_of (enc := Value.int .i64) (d := (0 : Int)) w 0 3 n (by omega) (by omega), fun k hk => by cases hk; exact hS⟩
theorem RowAt.more {S : Nat → Prop} {w : World} {e : TypeId} {sz n : Nat} {v : Value} {xs : List Value} (h : RowAt S w e sz v n xs) (o : Obj) : RowAt S (w.alloc o) e sz v n xs :=
  h.keep (Keep.of_below (below_alloc (Below.refl _ _) o))
theorem hp_born (w : World) (n : Nat) (hn : n ≤ 800) :
    HpAt (fun k => w.heap.size ≤ k) (((w.alloc (.cells (madeCells #[.int .i64 0] n) 3)).alloc (.cells (madeCells #[.int .i64 0] n) 3)).alloc (.cells #[.slice none 0 0, .slice (some ⟨w.heap.size , 0, none⟩) n n, .slice (some ⟨w.heap.size + 1, 0, none⟩) n n] 179)) (w.heap.size + 1 + 1) ⟨[], List.replicate n 0, List.replicate n 0⟩
    ∧ HpAt (fun k => w.heap.size ≤ k) (((w.alloc (.cells (madeCells #[.int .i64 0] n) 3)).alloc (.cells (madeCells #[.int .i64 0] n) 3)).alloc (.cells #[.slice none 0 0, .slice (some ⟨w.heap.size + 1, 0, none⟩) n n, .slice (some ⟨w.heap.size , 0, none⟩) n n] 179)) (w.heap.size + 1 + 1) ⟨[], List.replicate n 0, List.replicate n 0⟩ := by
  have r0 := hp_row w (fun k => w.heap.size ≤ k) n hn (Nat.le_refl _)
  have r1 := hp_row (w.alloc (.cells (madeCells #[.int .i64 0] n) 3)) (fun k => w.heap.size ≤ k) n hn (by simp)
  have e1 : (w.alloc (.cells (madeCells #[.int .i64 0] n) 3)).heap.size = w.heap.size + 1 := by simp
  have e2 : ((w.alloc (.cells (madeCells #[.int .i64 0] n) 3)).alloc (.cells (madeCells #[.int .i64 0] n) 3)).heap.size = w.heap.size + 1 + 1 := by simp
  rw [e1] at r1
  have hb := fun o => heap_alloc_new ((w.alloc (.cells (madeCells #[.int .i64 0] n) 3)).alloc (.cells (madeCells #[.int .i64 0] n) 3)) o
  rw [e2] at hb
  refine ⟨⟨_, _, _, hb _, RowAt.nil _ _ _ _, ?_, ?_, ?_, ?_, ?_, ?_⟩, ⟨_, _, _, hb _, RowAt.nil _ _ _ _, ?_, ?_, ?_, ?_, ?_, ?_⟩⟩
  all_goals first
    | (rw [show (List.replicate n (0 : Int)).length = n by simp]; first | exact (r0.more _).more _ | exact r1.more _)
    | (intro k hk e; cases hk; have e3 := Option.some.inj e; dsimp only at e3; omega)
    | (intro k hk e; cases hk)
    | omega
set_option maxHeartbeats 8000000 in
set_option maxRecDepth 100000 in
theorem HNew_calls (n : Nat) (hn : n ≤ 800) (w : World) :
    Calls Tryz.prog 71 #[.int .i64 (n : Int)] w fun e w' => ∃ h : Nat, w.heap.size ≤ h ∧ e = .returned (.pointer (some ⟨h, 0, none⟩)) ∧ HpAt (fun k => w.heap.size ≤ k) w' h (hpNew n) ∧ Below w.heap.size w w' := by
  have hM := print_make_of (P := Tryz.prog) 22 3 (.int .i64 0) 8 Tryz.underlying22 info3 rfl (by decide) n (by omega)
  have HM := Aside0.mk hM
  clear hM
  have HNn := Aside0.mk hn
  obtain ⟨N, hN⟩ : ∃ N : Int, (n : Int) = N := ⟨_, rfl⟩
  have h0 : 0 ≤ N := by omega
  have h8 : N ≤ 800 := by omega
  have HN := Aside0.mk hN
  have h1 : ¬ N < 0 := by omega
  have h2 : ¬ 65536 < N := by omega
  have h3 : N < 65536 := by omega
  have HM2 : ∀ W : World, (Instr.makeSlice 22 (.int .i64 N) (.int .i64 N)).run Tryz.prog W = .ok (.slice (some ⟨W.heap.size, 0, none⟩) n n) (W.alloc (.cells (madeCells #[.int .i64 0] n) 3)) := by rw [← hN]; exact HM.out
  have HMX := Aside0.mk HM2
  clear HM HM2
  rw [hN]
  clear hn hN
  go_enter Tryz.func71, Tryz.ntmps71
  go_upto_region 2 with (fail)
  have hM := HMX.out
  have HD1 := Aside0.mk (hp_born w n HNn.out)
  go_cut [3] (fun v3 wc => v3 = .pointer (some ⟨w.heap.size + 1 + 1, 0, none⟩) ∧ Aside0 (HpAt (fun k => w.heap.size ≤ k) wc (w.heap.size + 1 + 1) ⟨[], List.replicate n 0, List.replicate n 0⟩ ∧ Below w.heap.size w wc))
  case first =>
    go_region
    all_goals
      go_wp2
      go_meet
      first
        | exact ⟨rfl, ⟨HD1.out.1.keep (fun k _ _ => rfl), by repeat (first | exact Below.refl _ _ | apply below_alloc | apply below_drew1 | apply pw_below_drewN)⟩⟩
        | exact ⟨rfl, ⟨HD1.out.2.keep (fun k _ _ => rfl), by repeat (first | exact Below.refl _ _ | apply below_alloc | apply below_drew1 | apply pw_below_drewN)⟩⟩
  case rest =>
  obtain ⟨rfl, hA⟩ := hcut
  obtain ⟨h, hh, hlo⟩ : ∃ h, w.heap.size + 1 + 1 = h ∧ w.heap.size ≤ h := ⟨_, rfl, by omega⟩
  rw [hh] at hA ⊢
  obtain ⟨hat, hbw⟩ := hA.out
  have HAT := Aside0.mk hat
  have HBW := Aside0.mk hbw
  obtain ⟨vl, va, vk, HP⟩ := hat
  obtain ⟨A, c, rfl, _, _⟩ := HP.ra.ri
  have c1 : wc.cell? ⟨h, 1, none⟩ = some (.slice A n c) := by have := (blk_cell HP.blk 1).trans rfl; rwa [show (List.replicate n (0 : Int)).length = n by simp] at this
  clear HP hbw hA HD1 hM HMX h1 h2 h3 h0 h8 hh
  go_wp2
  clear c1
  go_loopg [21] (n + 1) (fun kq v21 wr => ∃ i : Nat, v21 = .int .i64 (i : Int) ∧ Aside0 (kq + i = n + 1 ∧ i ≤ n ∧ HpAt (fun k => w.heap.size ≤ k) wr h ⟨[], List.replicate i (-1) ++ List.replicate (n - i) 0, List.replicate n 0⟩ ∧ Below w.heap.size w wr))
  case atStart => exact ⟨0, rfl, ⟨by omega, by omega, (HAT.out).keep (Keep.of_below (Drawn0.below (by repeat (first | exact Drawn0.refl _ | apply Drawn0.step)))), below_step HBW.out (by repeat (first | exact Below.refl _ _ | apply below_alloc | apply below_drew1 | apply pw_below_drewN))⟩⟩
  case round =>
    obtain ⟨i, rfl, hA⟩ := hrel
    obtain ⟨hk, hi, hat, hbw⟩ := hA.out
    have HAT := Aside0.mk hat
    have HBW := Aside0.mk hbw
    clear hA hat hbw
    by_cases hlt : i < n
    · obtain ⟨vl, va, vk, HP⟩ := HAT.out
      have hl : (List.replicate i (-1 : Int) ++ List.replicate (n - i) 0).length = n := by rw [List.length_append, List.length_replicate, List.length_replicate]; omega
      obtain ⟨b, c2, rfl, cx, fx⟩ := HP.ra.some_ i (by show i < _; rw [hl]; exact hlt)
      have c1 := (blk_cell HP.blk 1).trans rfl
      simp only [hl] at c1
      have HST := Aside0.mk (HP.setA i (-1))
      have q1 : (0 ≤ (i : Int)) = True := eq_true (by omega)
      have q2 : ((i : Int) < (n : Int)) = True := eq_true (by omega)
      have HN0 := Aside0.mk HNn.out
      have q3 : (i : Int) + 1 ≤ 801 := by have := HNn.out; omega
      clear HP hl
      go_wp2
      go_roundg (gk - 1)
      case measure => omega
      case rel =>
        refine ⟨i + 1, by rw [show ((i : Int) + 1) = ((i + 1 : Nat) : Int) by omega], ⟨by omega, by omega, ?_, ?_⟩⟩
        · have hs : (List.replicate i (-1 : Int) ++ List.replicate (n - i) 0).set i (-1) = List.replicate (i + 1) (-1) ++ List.replicate (n - (i + 1)) 0 := by
            apply List.ext_getElem
            · simp; omega
            · intro m h1 h2
              rw [List.getElem_set, List.getElem_append, List.getElem_append]
              simp only [List.length_replicate, List.getElem_replicate]
              split <;> split <;> (try split) <;> omega
          rw [← hs]
          exact ⟨_, _, _, HST.out.1⟩
        · exact HBW.out.setCell (show w.heap.size ≤ b from HST.out.2) _
    · have hlt' : ((i : Int) < (n : Int)) = False := eq_false (by omega)
      go_wp2
      go_ret
      have hin : i = n := by omega
      subst hin
      refine ⟨h, hlo, rfl, ?_, HBW.out⟩
      have h1 := HAT.out
      rw [Nat.sub_self, List.replicate_zero, List.append_nil] at h1
      exact h1
end Go.Proofs.YtbpoapfkeinjnaaGreatDoor.Ld
namespace Go.Proofs.YtbpoapfkeinjnaaGreatDoor.Ld
open Go.RowKit Go.Proofs.YtbpoapfkeinjnaaGreatDoorW.PrintWords Go.Proofs.YtbpoapfkeinjnaaGreatDoorW.PrintLast Go.Proofs.YtbpoapfkeinjnaaGreatDoorW.PrintMore
set_option linter.unusedVariables false
set_option linter.unusedSimpArgs false
attribute [local go_sem] max2_int min2_int max_two min_two
def sans (S : Nat → Prop) (g : Nat) : Nat → Prop := fun k => S k ∧ k ≠ g
def TmAt (S : Nat → Prop) (w : World) (g : Nat) (p : Hp) : Prop := ∃ h, w.heap[g]? = some (.cells #[.pointer (some ⟨h, 0, none⟩)] 134 (0, 0)) ∧ S g ∧ HpAt (sans S g) w h p
theorem TmAt.keep {S : Nat → Prop} {w w' : World} {g : Nat} {p : Hp} (h : TmAt S w g p) (hk : Keep S w w') : TmAt S w' g p := by
  obtain ⟨b, h1, h2, h3⟩ := h
  exact ⟨b, (hk g (blk_lt h1) h2).trans h1, h2, h3.keep fun k hk1 hk2 => hk k hk1 hk2.1⟩
theorem TmAt.mono {S T : Nat → Prop} {w : World} {g : Nat} {p : Hp} (h : TmAt S w g p) (hs : ∀ k, k < w.heap.size → S k → T k) : TmAt T w g p := by
  obtain ⟨b, h1, h2, h3⟩ := h
  exact ⟨b, h1, hs g (blk_lt h1) h2, h3.mono fun k hk1 hk2 => ⟨hs k hk1 hk2.1, hk2.2⟩⟩
theorem tm_step {S : Nat → Prop} {w w' : World} {g h : Nat} {q : Hp} (hb : w.heap[g]? = some (.cells #[.pointer (some ⟨h, 0, none⟩)] 134 (0, 0))) (hg : S g) (hq : HpAt (up (sans S g) w w') w' h q) (hc : Chg (sans S g) w w') :
    TmAt (up S w w') w' g q ∧ Chg S w w' :=
  ⟨⟨h, hc.blk hb (fun e => e.2 rfl), .inl hg, hq.mono fun k hk hu => by
    rcases hu with hu | hu
    · exact ⟨.inl hu.1, hu.2⟩
    · exact ⟨.inr hu, fun e => by have := blk_lt hb; omega⟩⟩, hc.mono fun k hk => hk.1⟩
set_option maxHeartbeats 8000000 in
set_option maxRecDepth 100000 in
theorem TmNew_calls (n : Nat) (hn : n ≤ 800) (w : World) :
    Calls Tryz.prog 35 #[.int .i64 (n : Int)] w fun e w' => ∃ g : Nat, w.heap.size ≤ g ∧ e = .returned (.pointer (some ⟨g, 0, none⟩)) ∧ TmAt (fun k => w.heap.size ≤ k) w' g (hpNew n) ∧ Below w.heap.size w w' := by
  have HN := Aside0.mk hn
  clear hn
  go_enter Tryz.func35, Tryz.ntmps35
  go_wp2_with (go_at_call 71; (with_reducible refine (HNew_calls n HN.out w).mono ?_); rintro e w2 ⟨h, hlo, rfl, hat, hb⟩; have HLO := Aside0.mk hlo; have HAT := Aside0.mk hat; have HB := Aside0.mk hb; clear hlo hat hb)
  go_ret
  have s1 := HB.out.size
  refine ⟨_, s1, rfl, ⟨h, heap_alloc_new _ _, s1, ?_⟩, below_alloc HB.out _⟩
  exact (HAT.out.mono (T := sans (fun k => w.heap.size ≤ k) w2.heap.size) fun k hk hS => ⟨hS, by omega⟩).keep (Keep.of_below (below_alloc (Below.refl _ _) _))
set_option maxHeartbeats 8000000 in
set_option maxRecDepth 100000 in
theorem TmStop_calls (S : Nat → Prop) (g : Nat) (p : Hp) (x : Nat) (w : World) (H : TmAt S w g p) (hv : HpInv p) (hx : x < p.at_.length) (hn : p.at_.length ≤ 800) :
    Calls Tryz.prog 83 #[.pointer (some ⟨g, 0, none⟩), .int .i64 (x : Int)] w fun e w' => (∃ b, e = .returned (.bool b)) ∧ (∃ q, DelRel p q x ∧ TmAt (up S w w') w' g q) ∧ Chg S w w' := by
  obtain ⟨h, hb, hg, H⟩ := H
  have c0 : w.cell? ⟨g, 0, none⟩ = some (.pointer (some ⟨h, 0, none⟩)) := (blk_cell hb 0).trans rfl
  have HB := Aside0.mk hb
  have HH := Aside0.mk H
  have HV := Aside0.mk hv
  by_cases hon : p.on x
  · have HON := Aside0.mk hon
    clear hb H hv hon
    go_enter Tryz.func83, Tryz.ntmps83
    go_wp2_with (go_at_call 131; (with_reducible refine (HRemove_on _ h p x _ HH.out HV.out hx HON.out hn).mono ?_); rintro e w2 ⟨rfl, ⟨q, hq, hq2⟩, hc⟩; have HQ := Aside0.mk hq; have HQ2 := Aside0.mk hq2; have HC := Aside0.mk hc; clear hq hq2 hc)
    go_ret
    have ht := tm_step HB.out hg (HQ2.out.mono fun k _ hk => up_old k hk) HC.out
    exact ⟨⟨_, rfl⟩, ⟨q, HQ.out, ht.1⟩, ht.2⟩
  · have HON := Aside0.mk hon
    clear hb H hv hon
    go_enter Tryz.func83, Tryz.ntmps83
    go_wp2_with (go_at_call 131; (with_reducible refine (HRemove_off _ h p x _ HH.out hx HON.out hn).mono ?_); rintro e w2 ⟨rfl, hd⟩; have HD := Aside0.mk hd; clear hd)
    go_ret
    have ht := tm_step HB.out hg ((HH.out.keep (Keep.of_below HD.out.below)).mono fun k _ hk => up_old k hk) (Chg.of_drawn HD.out)
    exact ⟨⟨_, rfl⟩, ⟨p, ⟨rfl, rfl, HV.out, fun j hj => ⟨fun h1 => ⟨h1, fun e => HON.out (e ▸ h1)⟩, fun h1 => h1.1⟩⟩, ht.1⟩, ht.2⟩
set_option maxHeartbeats 8000000 in
set_option maxRecDepth 100000 in
theorem TmSet_calls (S : Nat → Prop) (g : Nat) (p : Hp) (x : Nat) (key : Int) (w : World) (H : TmAt S w g p) (hv : HpInv p) (hx : x < p.at_.length) (hn : p.at_.length ≤ 800) :
    Calls Tryz.prog 85 #[.pointer (some ⟨g, 0, none⟩), .int .i64 (x : Int), .int .i64 key] w fun e w' => e = .returned (.int .i64 0) ∧ (∃ q, SetRel p q x key ∧ TmAt (up S w w') w' g q) ∧ Chg S w w' := by
  have HH := Aside0.mk H
  have HV := Aside0.mk hv
  clear H hv
  go_enter Tryz.func85, Tryz.ntmps85
  go_upto_region 2 with (go_at_call 83; (with_reducible refine (TmStop_calls S g p x w HH.out HV.out hx hn).mono ?_); rintro e w2 ⟨⟨b, rfl⟩, ⟨q, hq, hq2⟩, hc⟩; have HQ := Aside0.mk hq; have HQ2 := Aside0.mk hq2; have HC := Aside0.mk hc; clear hq hq2 hc)
  obtain ⟨h, hb, hg, H⟩ := HQ2.out
  have c0 : w2.cell? ⟨g, 0, none⟩ = some (.pointer (some ⟨h, 0, none⟩)) := (blk_cell hb 0).trans rfl
  have HB := Aside0.mk hb
  have HP := Aside0.mk H
  have HG := Aside0.mk hg
  have hla := HQ.out.la
  have HOFF := Aside0.mk (show ¬ q.on x from fun e => ((HQ.out.on x hx).1 e).2 rfl)
  clear hb H hg
  go_wp2_with (go_at_call 132; (with_reducible refine (HpPush_calls _ h q x key _ HP.out HQ.out.inv (by rw [hla]; exact hx) HOFF.out (by rw [hla]; exact hn)).mono ?_); rintro e w3 ⟨rfl, ⟨r, hr, hr2⟩, hc⟩; have HR := Aside0.mk hr; have HR2 := Aside0.mk hr2; have HC3 := Aside0.mk hc; clear hr hr2 hc)
  go_ret
  have ht := tm_step HB.out HG.out HR2.out HC3.out
  refine ⟨rfl, ⟨r, ⟨by rw [HR.out.keys, HQ.out.keys], HR.out.la.trans HQ.out.la, HR.out.inv, fun j hj => ?_⟩, ht.1.mono fun k _ hk => up_up HC.out.size ht.2.size k hk⟩, HC.out.then_up ht.2⟩
  rw [HR.out.on j (by rw [hla]; exact hj), HQ.out.on j hj]
  by_cases e : j = x
  · simp [e]
  · simp [e]
set_option maxHeartbeats 8000000 in
set_option maxRecDepth 100000 in
theorem TmNext_none (S : Nat → Prop) (g : Nat) (p : Hp) (w : World) (H : TmAt S w g p) (h0 : p.l.length = 0) :
    Calls Tryz.prog 79 #[.pointer (some ⟨g, 0, none⟩)] w fun e w' => e = .returned (.tuple #[.int .i64 0, .bool false]) ∧ Drawn0 w w' := by
  obtain ⟨h, hb, hg, H⟩ := H
  have c0 : w.cell? ⟨g, 0, none⟩ = some (.pointer (some ⟨h, 0, none⟩)) := (blk_cell hb 0).trans rfl
  have HH := Aside0.mk H
  have H0 := Aside0.mk h0
  clear H hb h0
  go_enter Tryz.func79, Tryz.ntmps79
  go_wp2_with (go_at_call 126; (with_reducible refine (HFirst_none _ h p _ HH.out H0.out).mono ?_); rintro e w2 ⟨rfl, hd⟩; have HD := Aside0.mk hd; clear hd)
  go_ret2
  exact ⟨rfl, HD.out⟩
set_option maxHeartbeats 8000000 in
set_option maxRecDepth 100000 in
theorem TmNext_some (S : Nat → Prop) (g : Nat) (p : Hp) (L : Nat) (w : World) (H : TmAt S w g p) (hv : HpInv p) (hL : p.l.length = L + 1) (hn : p.at_.length ≤ 800) :
    Calls Tryz.prog 79 #[.pointer (some ⟨g, 0, none⟩)] w fun e w' => (∃ x : Nat, x < p.at_.length ∧ p.on x ∧ p.l.getD 0 0 = (x : Int) ∧ e = .returned (.tuple #[.int .i64 (p.keys.getD x 0), .bool true])) ∧ Drawn0 w w' := by
  obtain ⟨h, hb, hg, H⟩ := H
  have c0 : w.cell? ⟨g, 0, none⟩ = some (.pointer (some ⟨h, 0, none⟩)) := (blk_cell hb 0).trans rfl
  have HH := Aside0.mk H
  have HL := Aside0.mk hL
  have HV := Aside0.mk hv
  clear H hb hL hv
  go_enter Tryz.func79, Tryz.ntmps79
  go_wp2_with (go_at_call 126; (with_reducible refine (HFirst_some _ h p L _ HH.out HV.out HL.out hn).mono ?_); rintro e w2 ⟨x, hx, hon, hl0, rfl, hd⟩; have HL0 := Aside0.mk hl0; have HX := Aside0.mk hx; have HON := Aside0.mk hon; have HD := Aside0.mk hd; clear hd hon hx hl0)
  go_ret2
  exact ⟨⟨x, HX.out, HON.out, HL0.out, rfl⟩, HD.out⟩
end Go.Proofs.YtbpoapfkeinjnaaGreatDoor.Ld
namespace Go.Proofs.YtbpoapfkeinjnaaGreatDoor.Ld
open Go.RowKit Go.Proofs.YtbpoapfkeinjnaaGreatDoorW.PrintWords Go.Proofs.YtbpoapfkeinjnaaGreatDoorW.PrintLast Go.Proofs.YtbpoapfkeinjnaaGreatDoorW.PrintMore
set_option linter.unusedVariables false
set_option linter.unusedSimpArgs false
attribute [local go_sem] max2_int min2_int max_two min_two
def nats (l : List Nat) : List Int := l.map (fun n : Nat => (n : Int))
theorem nats_len (l : List Nat) : (nats l).length = l.length := by simp [nats]
theorem nats_snoc (l : List Nat) (x : Nat) : nats l ++ [(x : Int)] = nats (l ++ [x]) := by simp [nats]
theorem DelRel.len {p q : Hp} {x : Nat} (h : DelRel p q x) (hv : HpInv p) (hx : x < p.at_.length) (hon : p.on x) : q.l.length + 1 = p.l.length := by
  rw [hv.cnt, h.inv.cnt, h.la]
  refine (sumTo_one hx ?_ fun i hi hne => ?_).symm
  · unfold onN
    rw [if_pos (show 0 ≤ p.at_.getD x 0 from hon), if_neg (show ¬ 0 ≤ q.at_.getD x 0 from fun e => ((h.on x hx).1 e).2 rfl)]
  · unfold onN
    by_cases e : p.on i
    · rw [if_pos (show 0 ≤ q.at_.getD i 0 from (h.on i hi).2 ⟨e, hne⟩), if_pos (show 0 ≤ p.at_.getD i 0 from e)]
    · rw [if_neg (show ¬ 0 ≤ q.at_.getD i 0 from fun e2 => e ((h.on i hi).1 e2).1), if_neg (show ¬ 0 ≤ p.at_.getD i 0 from e)]
structure Left (p q : Hp) (ids : List Nat) : Prop where
  keys : q.keys = p.keys
  la : q.at_.length = p.at_.length
  inv : HpInv q
  dup : ids.Nodup
  cnt : ids.length + q.l.length = p.l.length
  mem : ∀ x, x ∈ ids → x < p.at_.length ∧ p.on x
  on : ∀ j, j < p.at_.length → (q.on j ↔ p.on j ∧ j ∉ ids)
theorem Left.refl {p : Hp} (h : HpInv p) : Left p p [] := ⟨rfl, rfl, h, List.nodup_nil, by simp, fun x hx => by simp at hx, fun j hj => by simp⟩
theorem Left.more {p q r : Hp} {ids : List Nat} {x : Nat} (h : Left p q ids) (hx : x < p.at_.length) (hon : q.on x) (k : DelRel q r x) : Left p r (ids ++ [x]) where
  keys := k.keys.trans h.keys
  la := k.la.trans h.la
  inv := k.inv
  dup := by
    rw [List.nodup_append]
    refine ⟨h.dup, by simp, fun a ha b hb e => ?_⟩
    simp at hb
    subst hb
    subst e
    exact ((h.on _ hx).1 hon).2 ha
  cnt := by
    have h1 := k.len h.inv (by rw [h.la]; exact hx) hon
    have h2 := h.cnt
    rw [List.length_append, List.length_singleton]
    omega
  mem := fun y hy => by
    rcases List.mem_append.1 hy with hy | hy
    · exact h.mem y hy
    · simp at hy; subst hy; exact ⟨hx, ((h.on _ hx).1 hon).1⟩
  on := fun j hj => by
    rw [k.on j (by rw [h.la]; exact hj), h.on j hj]
    simp [and_assoc]
theorem tm_step0 {S : Nat → Prop} {w w' : World} {g h : Nat} {q : Hp} (hb : w.heap[g]? = some (.cells #[.pointer (some ⟨h, 0, none⟩)] 134 (0, 0))) (hg : S g) (hq : HpAt (sans S g) w' h q) (hc : Chg (sans S g) w w') :
    TmAt S w' g q ∧ Chg S w w' := ⟨⟨h, hc.blk hb (fun e => e.2 rfl), hg, hq⟩, hc.mono fun k hk => hk.1⟩
set_option maxHeartbeats 8000000 in
set_option maxRecDepth 100000 in
theorem Due_calls (S : Nat → Prop) (g : Nat) (p : Hp) (now : Int) (w : World) (H : TmAt S w g p) (hv : HpInv p) (hn : p.at_.length ≤ 800) (hS : ∀ k, S k → k < w.heap.size) :
    Calls Tryz.prog 46 #[.pointer (some ⟨g, 0, none⟩), .int .i64 now] w fun e w' => ∃ v ids q, e = .returned v ∧ RowAt (fun k => w.heap.size ≤ k) w' 3 1 v ids.length (ints (nats ids)) ∧ Left p q ids ∧ TmAt S w' g q ∧ Chg S w w' ∧ (∀ x, x ∈ ids → p.keys.getD x 0 ≤ now) ∧ (q.l.length = 0 ∨ ∃ x, x < p.at_.length ∧ q.on x ∧ now < p.keys.getD x 0) := by
  have HH := Aside0.mk H
  have HV := Aside0.mk hv
  have HSS := Aside0.mk hS
  clear H hv hS
  go_enter Tryz.func46, Tryz.ntmps46
  go_wp2
  go_loopg [4] (p.l.length + 1) (fun kq v4 wr => Aside0 (∃ ids q, kq = q.l.length + 1 ∧ RowAt (fun k => w.heap.size ≤ k) wr 3 1 v4 ids.length (ints (nats ids)) ∧ Left p q ids ∧ TmAt S wr g q ∧ Chg S w wr ∧ ∀ x, x ∈ ids → p.keys.getD x 0 ≤ now))
  case atStart => exact ⟨⟨[], p, rfl, RowAt.nil _ _ _ _, Left.refl HV.out, HH.out, Chg.refl S w, fun x hx => by simp at hx⟩⟩
  case round =>
    obtain ⟨ids, q, hk, hrow, hl, ht, hc, hdue⟩ := hrel.out
    have HDUE := Aside0.mk hdue
    clear hdue
    have HROW := Aside0.mk hrow
    have HL := Aside0.mk hl
    have HT := Aside0.mk ht
    have HC := Aside0.mk hc
    have hla := hl.la
    have HLA := Aside0.mk hla
    clear hrel hrow hl ht hc hla
    rcases hL : q.l.length with _ | L
    · have H0 := Aside0.mk hL
      clear hL hk
      go_wp2_with (go_at_call 79; (with_reducible refine (TmNext_none S g q wr HT.out H0.out).mono ?_); rintro e w2 ⟨rfl, hd⟩; have HD := Aside0.mk hd; clear hd)
      go_ret
      exact ⟨_, ids, q, rfl, HROW.out.keep (Keep.of_below HD.out.below), HL.out, HT.out.keep (Keep.of_below HD.out.below), HC.out.then_below HD.out.below, HDUE.out, .inl H0.out⟩
    · have HLL := Aside0.mk hL
      clear hL
      go_upto_region 2 with (go_at_call 79; (with_reducible refine (TmNext_some S g q L wr HT.out HL.out.inv HLL.out (by rw [HLA.out]; exact hn)).mono ?_); rintro e w2 ⟨⟨x, hx, hon, hl0, he⟩, hd⟩; obtain ⟨key, hkey⟩ : ∃ key, q.keys.getD x 0 = key := ⟨_, rfl⟩; rw [hkey] at he; subst he; have HXX := Aside0.mk (And.intro hx (And.intro hon (And.intro hl0 hkey))); have HD := Aside0.mk hd; clear hd hx hon hkey hl0)
      have HT2 := Aside0.mk (HT.out.keep (Keep.of_below HD.out.below))
      have HR2 := Aside0.mk (HROW.out.keep (Keep.of_below HD.out.below))
      have HC2 := Aside0.mk (HC.out.then_below HD.out.below)
      by_cases hgt : key > now
      · have hgb : decide (now < key) = true := decide_eq_true hgt
        go_wp2
        go_ret
        obtain ⟨b1, b2, b3, b4⟩ := HXX.out
        exact ⟨_, ids, q, rfl, HR2.out, HL.out, HT2.out, HC2.out, HDUE.out, .inr ⟨x, by rw [HLA.out] at b1; exact b1, b2, by rw [← HL.out.keys, b4]; exact hgt⟩⟩
      · have hgb : decide (now < key) = false := decide_eq_false hgt
        go_upto_region 4 with (fail)
        obtain ⟨h, hb, hg, H⟩ := HT2.out
        have c0 : w2.cell? ⟨g, 0, none⟩ = some (.pointer (some ⟨h, 0, none⟩)) := (blk_cell hb 0).trans rfl
        have HB := Aside0.mk hb
        have HP := Aside0.mk H
        have HG := Aside0.mk hg
        have HK := Aside0.mk hk
        clear hb H hg hk
        go_upto_region 5 with (go_at_call 80; (with_reducible refine (HPop_some _ h q L _ HP.out HL.out.inv HLL.out (by rw [HLA.out]; exact hn)).mono ?_); rintro e w3 ⟨y, hy, hon, hy0, rfl, ⟨r, hr, hr2⟩, hc⟩; obtain ⟨ky, hky⟩ : ∃ ky, q.keys.getD y 0 = ky := ⟨_, rfl⟩; try rw [hky]; have HY0 := Aside0.mk hy0; have HY := Aside0.mk hy; have HON := Aside0.mk hon; have HR := Aside0.mk hr; have HRR := Aside0.mk hr2; have HC3 := Aside0.mk hc; clear hy hon hr hr2 hc hky hy0)
        have s2 := HC2.out.size
        have HROW3 := Aside0.mk (HR2.out.keep (Keep.of_chg HC3.out (fun k hk e => by have := HSS.out k e.1; omega)))
        have HT3 := Aside0.mk (tm_step0 HB.out HG.out HRR.out HC3.out)
        clear c0
        go_wp2_with (at_builtin; go_loud (refine print_append_of (w0 := w3) (Value.int .i64) 0 rfl (.tmp 33) (.tmp 35) 22 3 (.int .i64 0) 8 rfl Tryz.underlying22 info3 rfl (by decide) u4 (nats ids) (y : Int) rfl rfl rfl ?h1 (Below.refl _ _) (Nat.zero_le _) ?h2 ?_); (case h1 => rw [nats_len]; exact HROW3.out.own); (case h2 => rw [nats_len]; have h1 := HL.out.cnt; have h3 := HV.out.le; omega); (intro v6 w6 ho6 hb6 hg6 hat6; have HO := Aside0.mk ho6; have HG6 := Aside0.mk hg6; have HAT := Aside0.mk hat6; clear ho6 hb6 hg6 hat6))
        go_roundg (gk - 1)
        case measure => have := HK.out; have := HLL.out; omega
        case rel =>
          have hk := HK.out
          have hll := HLL.out
          have hlen := HR.out.len HL.out.inv (by rw [HLA.out]; exact (by have := HY.out; rw [HLA.out] at this; exact this)) HON.out
          have ho := HO.out
          rw [nats_snoc, nats_len] at ho
          have hg := (Chg.refl (fun k => w.heap.size ≤ k) w3).grown HG6.out (fun k hk => HROW3.out.fp k hk)
          refine ⟨⟨ids ++ [y], r, by omega, (HROW3.out.grown ho HAT.out).mono (fun k _ hk => ?_), HL.out.more (by have := HY.out; rw [HLA.out] at this; exact this) HON.out HR.out, HT3.out.1.keep (Keep.of_chg hg fun k hk e => by have := HSS.out k hk; omega), (HC2.out.trans HT3.out.2).then_own hg (fun k hk => .inr hk), fun z hz => ?_⟩⟩
          rcases hk with hk | hk
          · exact hk
          · have := HC3.out.size; omega
          · rcases List.mem_append.1 hz with hz | hz
            · exact HDUE.out z hz
            · obtain ⟨b1, b2, b3, b4⟩ := HXX.out
              have hxy : x = y := by have := HY0.out; rw [b3] at this; omega
              simp at hz
              subst hz
              rw [← hxy, ← HL.out.keys, b4]
              omega
end Go.Proofs.YtbpoapfkeinjnaaGreatDoor.Ld
namespace Go.Proofs.YtbpoapfkeinjnaaGreatDoor.Ld
open Go.RowKit Go.Proofs.YtbpoapfkeinjnaaGreatDoorW.PrintWords Go.Proofs.YtbpoapfkeinjnaaGreatDoorW.PrintLast Go.Proofs.YtbpoapfkeinjnaaGreatDoorW.PrintMore
set_option linter.unusedVariables false
set_option linter.unusedSimpArgs false
attribute [local go_sem] max2_int min2_int max_two min_two
structure Gr where
  N : Nat
  L : Bool → Nat → List Int
  T : Nat → Nat
  n : Int
def maskRow (N : Nat) (T : Nat → Nat) : List Value := (List.range N).map fun j => .int .u64 (T j : Int)
def slRow (N : Nat) (r : Nat → Value) : List Value := (List.range N).map r
structure GrP (S : Nat → Prop) (w : World) (g : Nat) (G : Gr) (vs : Bool → Value) (vt : Value) (rv : Bool → Nat → Value) : Prop where
  blk : w.heap[g]? = some (.cells #[vs false, vs true, vt, .int .i64 G.n] 126 (0, 0))
  row : ∀ b, RowAt S w 22 1 (vs b) G.N (slRow G.N (rv b))
  rne : ∀ k, (vs false).ownBlock = some k → (vs true).ownBlock ≠ some k
  rt : RowAt S w 171 1 vt G.N (maskRow G.N G.T)
  rr : ∀ b j, j < G.N → RowAt S w 3 1 (rv b j) (G.L b j).length (ints (G.L b j))
  ap : ∀ b j b' j', j < G.N → j' < G.N → (b, j) ≠ (b', j') → ∀ k, (rv b j).ownBlock = some k → (rv b' j').ownBlock ≠ some k
  fg : S g
def GrAt (S : Nat → Prop) (w : World) (g : Nat) (G : Gr) : Prop := ∃ vs vt rv, GrP S w g G vs vt rv
section
variable {S T : Nat → Prop} {w w' : World} {g : Nat} {G : Gr} {vs : Bool → Value} {vt : Value} {rv : Bool → Nat → Value}
theorem GrP.keep (H : GrP S w g G vs vt rv) (hk : Keep S w w') : GrP S w' g G vs vt rv := ⟨(hk g (blk_lt H.blk) H.fg).trans H.blk, fun b => (H.row b).keep hk, H.rne, H.rt.keep hk, fun b j hj => (H.rr b j hj).keep hk, H.ap, H.fg⟩
theorem GrP.mono (H : GrP S w g G vs vt rv) (hs : ∀ k, k < w.heap.size → S k → T k) : GrP T w g G vs vt rv := ⟨H.blk, fun b => (H.row b).mono hs, H.rne, H.rt.mono hs, fun b j hj => (H.rr b j hj).mono hs, H.ap, hs g (blk_lt H.blk) H.fg⟩
theorem GrAt.keep (H : GrAt S w g G) (hk : Keep S w w') : GrAt S w' g G := by obtain ⟨a, b, c, H⟩ := H; exact ⟨a, b, c, H.keep hk⟩
theorem GrAt.mono (H : GrAt S w g G) (hs : ∀ k, k < w.heap.size → S k → T k) : GrAt T w g G := by obtain ⟨a, b, c, H⟩ := H; exact ⟨a, b, c, H.mono hs⟩
theorem row_cell {e : TypeId} {v : Value} {n : Nat} {xs : List Value} (h : RowAt S w e 1 v n xs) (i : Nat) (hi : i < n) (x : Value) (hx : xs[i]? = some x) : ∃ b c, v = .slice (some ⟨b, 0, none⟩) n c ∧ w.cell? ⟨b, i, none⟩ = some x ∧ w.frozen? ⟨b, i, none⟩ = false := by
  obtain ⟨b, c, rfl, _, _⟩ := h.own.form (by omega)
  have h1 := h.own.cells (g := b) rfl i x hx
  rw [add_plain] at h1
  exact ⟨b, c, rfl, h1, h.own.frozenAt i⟩
theorem map_range_get {α : Type} (f : Nat → α) (n i : Nat) (hi : i < n) : ((List.range n).map f)[i]? = some (f i) := by
  rw [List.getElem?_map, List.getElem?_range hi]; rfl
theorem GrP.at_ (H : GrP S w g G vs vt rv) (b : Bool) (i : Nat) (hi : i < G.N) : ∃ k c, vs b = .slice (some ⟨k, 0, none⟩) G.N c ∧ w.cell? ⟨k, i, none⟩ = some (rv b i) ∧ w.frozen? ⟨k, i, none⟩ = false := row_cell (H.row b) i hi _ (map_range_get _ _ _ hi)
theorem GrP.mask (H : GrP S w g G vs vt rv) (i : Nat) (hi : i < G.N) : ∃ k c, vt = .slice (some ⟨k, 0, none⟩) G.N c ∧ w.cell? ⟨k, i, none⟩ = some (.int .u64 (G.T i : Int)) ∧ w.frozen? ⟨k, i, none⟩ = false := row_cell H.rt i hi _ (map_range_get _ _ _ hi)
end
set_option maxHeartbeats 8000000 in
set_option maxRecDepth 100000 in
theorem N_calls (S : Nat → Prop) (g : Nat) (G : Gr) (w : World) (H : GrAt S w g G) : Calls Tryz.prog 92 #[.pointer (some ⟨g, 0, none⟩)] w fun e w' => e = .returned (.int .i64 (G.N : Int)) ∧ Drawn0 w w' := by
  obtain ⟨vs, vt, rv, H⟩ := H
  obtain ⟨A, c, hA⟩ := (H.row false).slice
  have c0 : w.cell? ⟨g, 0, none⟩ = some (.slice A G.N c) := by have := (blk_cell H.blk 0).trans rfl; rwa [hA] at this
  clear H hA
  go_enter Tryz.func92, Tryz.ntmps92
  go_wp2
  go_ret
  exact ⟨rfl, by repeat (first | exact Drawn0.refl _ | apply Drawn0.step)⟩
set_option maxHeartbeats 8000000 in
set_option maxRecDepth 100000 in
theorem there1_calls (x N : Nat) (hx : x < N) (hN : N ≤ 1000) (g c k : Nat) (A : Option Addr) (w : World) (h1 : w.cell? ⟨c, 0, none⟩ = some (.pointer (some ⟨g, 0, none⟩))) (h2 : w.cell? ⟨g, 0, none⟩ = some (.slice A N k)) :
    Calls Tryz.prog 121 #[.int .i64 (x : Int), .pointer (some ⟨c, 0, none⟩)] w fun e w' => e = .returned (.bool false) ∧ Drawn0 w w' := by
  have q1 : decide ((x : Int) < 0) = false := decide_eq_false (by omega)
  have q2 : decide (N ≤ x) = false := decide_eq_false (by omega)
  go_enter Tryz.func121, Tryz.ntmps121
  go_wp2
  go_ret
  exact ⟨rfl, by repeat (first | exact Drawn0.refl _ | apply Drawn0.step)⟩
set_option maxHeartbeats 8000000 in
set_option maxRecDepth 100000 in
theorem idx_calls (xs : List Int) (n cp N : Nat) (hn : xs.length = n) (hall : ∀ i, i < n → ∃ x : Nat, xs.getD i 0 = (x : Int) ∧ x < N) (hN : N ≤ 1000) (hn2 : n ≤ 1000) (g c k : Nat) (A B : Option Addr) (w : World) (hr : RI w B xs) (h1 : w.cell? ⟨c, 0, none⟩ = some (.pointer (some ⟨g, 0, none⟩))) (h2 : w.cell? ⟨g, 0, none⟩ = some (.slice A N k)) :
    Calls Tryz.prog 100 #[.slice B n cp, .func (.func 121) #[] #[.pointer (some ⟨c, 0, none⟩)]] w fun e w' => e = .returned (.int .i64 (-1)) ∧ Drawn0 w w' := by
  have HR := Aside0.mk hr
  have HA := Aside0.mk hall
  have H1 := Aside0.mk h1
  have H2 := Aside0.mk h2
  have HN := Aside0.mk hn
  clear hr hall h1 h2 hn
  go_enter Tryz.func100, Tryz.ntmps100
  go_wp2
  go_loopg [8] (n + 1) (fun kq v8 wr => ∃ i : Nat, v8 = .int .i64 (i : Int) ∧ Aside0 (kq + i = n + 1 ∧ i ≤ n ∧ Drawn0 w wr))
  case atStart => exact ⟨0, rfl, ⟨by omega, by omega, by repeat (first | exact Drawn0.refl _ | apply Drawn0.step)⟩⟩
  case round =>
    obtain ⟨i, rfl, hA⟩ := hrel
    obtain ⟨hk, hi, hd⟩ := hA.out
    have HD := Aside0.mk hd
    clear hA
    by_cases hlt : i < n
    · obtain ⟨x, hx, hxN⟩ := HA.out i hlt
      obtain ⟨ad, rfl, hcell⟩ := RI.at_ (ReadsOf.below HR.out HD.out.below) i (by rw [HN.out]; exact hlt)
      rw [hx] at hcell
      have HX := Aside0.mk hxN
      have p1 : (0 ≤ (i : Int)) = True := eq_true (by omega)
      have p2 : ((i : Int) < (n : Int)) = True := eq_true (by omega)
      clear hx hd hxN
      go_wp2_with (go_at_call 121; (with_reducible refine (there1_calls x N HX.out hN g c k A _ ?q1 ?q2).mono ?_); (case q1 => exact pw_cell_below HD.out.below H1.out); (case q2 => exact pw_cell_below HD.out.below H2.out); rintro e w2 ⟨rfl, hd2⟩; have HD2 := Aside0.mk (drawnT HD.out hd2); clear hd2)
      go_roundg (gk - 1)
      case measure => omega
      case rel => exact ⟨i + 1, by rw [show ((i : Int) + 1) = ((i + 1 : Nat) : Int) by omega], ⟨by omega, by omega, HD2.out⟩⟩
    · have p2 : ((i : Int) < (n : Int)) = False := eq_false (by omega)
      go_wp2
      go_ret
      exact ⟨rfl, HD.out⟩
set_option maxHeartbeats 8000000 in
set_option maxRecDepth 100000 in
theorem cont_calls (xs : List Int) (n cp N : Nat) (hn : xs.length = n) (hall : ∀ i, i < n → ∃ x : Nat, xs.getD i 0 = (x : Int) ∧ x < N) (hN : N ≤ 1000) (hn2 : n ≤ 1000) (g c k : Nat) (A B : Option Addr) (w : World) (hr : RI w B xs) (h1 : w.cell? ⟨c, 0, none⟩ = some (.pointer (some ⟨g, 0, none⟩))) (h2 : w.cell? ⟨g, 0, none⟩ = some (.slice A N k)) :
    Calls Tryz.prog 120 #[.slice B n cp, .func (.func 121) #[] #[.pointer (some ⟨c, 0, none⟩)]] w fun e w' => e = .returned (.bool false) ∧ Drawn0 w w' := by
  have HA := Aside0.mk hall
  have HR := Aside0.mk hr
  clear hall hr
  go_enter Tryz.func120, Tryz.ntmps120
  go_wp2_with (go_at_call 100; (with_reducible refine (idx_calls xs n cp N hn HA.out hN hn2 g c k A B w HR.out h1 h2).mono ?_); rintro e w2 ⟨rfl, hd⟩; have HD := Aside0.mk hd; clear hd)
  go_ret
  exact ⟨rfl, HD.out⟩
set_option maxHeartbeats 8000000 in
set_option maxRecDepth 100000 in
theorem there_calls (S : Nat → Prop) (xs : List Int) (n cp : Nat) (g : Nat) (G : Gr) (w : World) (B : Option Addr) (H : GrAt S w g G) (hN : G.N ≤ 1000) (hn : xs.length = n) (hn2 : n ≤ 1000) (hall : ∀ i, i < n → ∃ x : Nat, xs.getD i 0 = (x : Int) ∧ x < G.N) (hr : RI w B xs) :
    Calls Tryz.prog 67 #[.pointer (some ⟨g, 0, none⟩), .slice B n cp] w fun e w' => e = .returned (.bool true) ∧ Below w.heap.size w w' := by
  obtain ⟨vs, vt, rv, H⟩ := H
  obtain ⟨A, k, hA⟩ := (H.row false).slice
  have c0 : w.cell? ⟨g, 0, none⟩ = some (.slice A G.N k) := by have := (blk_cell H.blk 0).trans rfl; rwa [hA] at this
  have HC := Aside0.mk (pw_cell_below (below_alloc (Below.refl _ w) (.cells #[.pointer (some ⟨g, 0, none⟩)] 66)) c0)
  have HA := Aside0.mk hall
  have HR := Aside0.mk (ReadsOf.below hr (below_alloc (Below.refl _ w) (.cells #[.pointer (some ⟨g, 0, none⟩)] 66)))
  clear H hA hall hr c0
  go_enter Tryz.func67, Tryz.ntmps67
  go_wp2_with (go_at_call 120; go_loud (refine (cont_calls xs n cp G.N hn HA.out hN hn2 g w.heap.size k A B _ HR.out ?q1 HC.out).mono ?_); (case q1 => exact (blk_cell (heap_alloc_new w _) 0).trans rfl); rintro e w2 ⟨rfl, hd⟩; have HD := Aside0.mk hd; clear hd)
  go_ret
  exact ⟨rfl, below_step (below_alloc (Below.refl _ w) _) HD.out.below⟩
end Go.Proofs.YtbpoapfkeinjnaaGreatDoor.Ld
namespace Go.Proofs.YtbpoapfkeinjnaaGreatDoor.Ld
open Go.RowKit Go.Proofs.YtbpoapfkeinjnaaGreatDoorW.PrintWords Go.Proofs.YtbpoapfkeinjnaaGreatDoorW.PrintLast Go.Proofs.YtbpoapfkeinjnaaGreatDoorW.PrintMore
set_option linter.unusedVariables false
set_option linter.unusedSimpArgs false
attribute [local go_sem] max2_int min2_int max_two min_two
theorem ri_lit (w : World) (xs : List Int) (hm : xs.length ≤ 1000) : RI (w.alloc (.cells (encs (Value.int .i64) xs).toArray 3)) (some ⟨w.heap.size, 0, none⟩) xs := by
  have h := own_lit_of (enc := Value.int .i64) w 0 3 xs (by omega) (by omega)
  obtain ⟨A, c, he, hr⟩ := own_reads_of (d := (0 : Int)) h
  cases he
  exact hr
set_option maxHeartbeats 8000000 in
set_option maxRecDepth 100000 in
theorem Out_calls (S : Nat → Prop) (g : Nat) (G : Gr) (x : Nat) (w : World) (H : GrAt S w g G) (hN : G.N ≤ 1000) (hx : x < G.N) (hl : (G.L false x).length ≤ 1000) :
    Calls Tryz.prog 31 #[.pointer (some ⟨g, 0, none⟩), .int .i64 (x : Int)] w fun e w' => ∃ A c, e = .returned (.slice A (G.L false x).length c) ∧ RI w' A (G.L false x) ∧ (∀ a, A = some a → 0 < (G.L false x).length → w.heap.size ≤ a.block ∧ a.block < w'.heap.size) ∧ Below w.heap.size w w' := by
  obtain ⟨xs, hxs⟩ : ∃ xs, G.L false x = xs := ⟨_, rfl⟩
  rw [hxs] at hl ⊢
  obtain ⟨m, hm⟩ : ∃ m, xs.length = m := ⟨_, rfl⟩
  rw [hm] at hl ⊢
  have HXS := Aside0.mk hxs
  have HM := Aside0.mk hm
  clear hxs hm
  have HH := Aside0.mk H
  have HAL := Aside0.mk (show ∀ i, i < 1 → ∃ y : Nat, ([(x : Int)] : List Int).getD i 0 = (y : Int) ∧ y < G.N from fun i hi => ⟨x, by rw [show i = 0 by omega]; rfl, hx⟩)
  clear H
  go_enter Tryz.func31, Tryz.ntmps31
  go_upto_region 3 with (go_at_call 67; go_loud (refine (there_calls S [(x : Int)] 1 1 g G _ _ (HH.out.keep (Keep.of_below (below_alloc (Below.refl _ w) _))) hN rfl (by omega) HAL.out (ri_lit w [(x : Int)] (by simp))).mono ?_); rintro e w2 ⟨rfl, hd⟩; have HD := Aside0.mk (below_step (below_alloc (Below.refl _ w) _) hd); clear hd)
  have HH2 := Aside0.mk (HH.out.keep (Keep.of_below HD.out))
  obtain ⟨vs, vt, rv, HP⟩ := HH2.out
  obtain ⟨k, c, hA, cx, fx⟩ := HP.at_ false x hx
  obtain ⟨A, c2, hv, hri, hrl⟩ := (HP.rr false x hx).ri
  rw [HXS.out] at hri hv
  rw [HM.out] at hv
  rw [hv] at cx
  have c0 : w2.cell? ⟨g, 0, none⟩ = some (.slice (some ⟨k, 0, none⟩) G.N c) := by have := (blk_cell HP.blk 0).trans rfl; rwa [hA] at this
  have HRI := Aside0.mk hri
  have q1 : (0 ≤ (x : Int)) = True := eq_true (by omega)
  have q2 : ((x : Int) < (G.N : Int)) = True := eq_true (by omega)
  clear HP hA hv hri hrl
  go_wp2_with (go_at_call 68; go_loud (refine (Clone_calls A m c2 xs _ (ReadsOf.below HRI.out ?q1) HM.out hl).mono ?_); (case q1 => repeat (first | exact Below.refl _ _ | apply below_alloc | apply below_drew1 | apply pw_below_drewN)); rintro e w3 ⟨A3, c3, rfl, h1, h2, h3⟩; have H1 := Aside0.mk h1; have H2 := Aside0.mk h2; have H3 := Aside0.mk h3; clear h1 h2 h3)
  go_ret
  have s2 := HD.out.size
  refine ⟨A3, c3, rfl, H1.out, fun a ha h0 => ?_, below_step HD.out H3.out⟩
  have := H2.out a ha h0
  exact ⟨Nat.le_trans s2 this.1, this.2⟩
set_option maxHeartbeats 8000000 in
set_option maxRecDepth 100000 in
theorem In_calls (S : Nat → Prop) (g : Nat) (G : Gr) (x : Nat) (w : World) (H : GrAt S w g G) (hN : G.N ≤ 1000) (hx : x < G.N) (hl : (G.L true x).length ≤ 1000) :
    Calls Tryz.prog 110 #[.pointer (some ⟨g, 0, none⟩), .int .i64 (x : Int)] w fun e w' => ∃ A c, e = .returned (.slice A (G.L true x).length c) ∧ RI w' A (G.L true x) ∧ (∀ a, A = some a → 0 < (G.L true x).length → w.heap.size ≤ a.block ∧ a.block < w'.heap.size) ∧ Below w.heap.size w w' := by
  obtain ⟨xs, hxs⟩ : ∃ xs, G.L true x = xs := ⟨_, rfl⟩
  rw [hxs] at hl ⊢
  obtain ⟨m, hm⟩ : ∃ m, xs.length = m := ⟨_, rfl⟩
  rw [hm] at hl ⊢
  have HXS := Aside0.mk hxs
  have HM := Aside0.mk hm
  clear hxs hm
  have HH := Aside0.mk H
  have HAL := Aside0.mk (show ∀ i, i < 1 → ∃ y : Nat, ([(x : Int)] : List Int).getD i 0 = (y : Int) ∧ y < G.N from fun i hi => ⟨x, by rw [show i = 0 by omega]; rfl, hx⟩)
  clear H
  go_enter Tryz.func110, Tryz.ntmps110
  go_upto_region 3 with (go_at_call 67; go_loud (refine (there_calls S [(x : Int)] 1 1 g G _ _ (HH.out.keep (Keep.of_below (below_alloc (Below.refl _ w) _))) hN rfl (by omega) HAL.out (ri_lit w [(x : Int)] (by simp))).mono ?_); rintro e w2 ⟨rfl, hd⟩; have HD := Aside0.mk (below_step (below_alloc (Below.refl _ w) _) hd); clear hd)
  have HH2 := Aside0.mk (HH.out.keep (Keep.of_below HD.out))
  obtain ⟨vs, vt, rv, HP⟩ := HH2.out
  obtain ⟨k, c, hA, cx, fx⟩ := HP.at_ true x hx
  obtain ⟨A, c2, hv, hri, hrl⟩ := (HP.rr true x hx).ri
  rw [HXS.out] at hri hv
  rw [HM.out] at hv
  rw [hv] at cx
  have c0 : w2.cell? ⟨g, 1, none⟩ = some (.slice (some ⟨k, 0, none⟩) G.N c) := by have := (blk_cell HP.blk 1).trans rfl; rwa [hA] at this
  have HRI := Aside0.mk hri
  have q1 : (0 ≤ (x : Int)) = True := eq_true (by omega)
  have q2 : ((x : Int) < (G.N : Int)) = True := eq_true (by omega)
  clear HP hA hv hri hrl
  go_wp2_with (go_at_call 68; go_loud (refine (Clone_calls A m c2 xs _ (ReadsOf.below HRI.out ?q1) HM.out hl).mono ?_); (case q1 => repeat (first | exact Below.refl _ _ | apply below_alloc | apply below_drew1 | apply pw_below_drewN)); rintro e w3 ⟨A3, c3, rfl, h1, h2, h3⟩; have H1 := Aside0.mk h1; have H2 := Aside0.mk h2; have H3 := Aside0.mk h3; clear h1 h2 h3)
  go_ret
  have s2 := HD.out.size
  refine ⟨A3, c3, rfl, H1.out, fun a ha h0 => ?_, below_step HD.out H3.out⟩
  have := H2.out a ha h0
  exact ⟨Nat.le_trans s2 this.1, this.2⟩
end Go.Proofs.YtbpoapfkeinjnaaGreatDoor.Ld
namespace Go.Proofs.YtbpoapfkeinjnaaGreatDoor.Ld
open Go.RowKit Go.Proofs.YtbpoapfkeinjnaaGreatDoorW.PrintWords Go.Proofs.YtbpoapfkeinjnaaGreatDoorW.PrintLast Go.Proofs.YtbpoapfkeinjnaaGreatDoorW.PrintMore
set_option linter.unusedVariables false
set_option linter.unusedSimpArgs false
attribute [local go_sem] max2_int min2_int max_two min_two
theorem wraps64 (n : Int) (h0 : 0 ≤ n) (h1 : n < 2 ^ 64) : IntKind.u64.wrap n = n := by rw [IntKind.wrap_u64]; omega
theorem and_nat (a b : Nat) (ha : a < 2 ^ 64) (hb : b < 2 ^ 64) : bits .and .u64 (a : Int) (b : Int) = ((a &&& b : Nat) : Int) := (bits_nat .u64 64 (by decide) wraps64 a b ha hb).1
theorem or_nat (a b : Nat) (ha : a < 2 ^ 64) (hb : b < 2 ^ 64) : bits .or .u64 (a : Int) (b : Int) = ((a ||| b : Nat) : Int) := (bits_nat .u64 64 (by decide) wraps64 a b ha hb).2
set_option maxHeartbeats 8000000 in
set_option maxRecDepth 100000 in
theorem has_calls' (T x : Nat) (w : World) (hT : T < 18446744073709551616) (hx : x < 64) :
    Calls Tryz.prog 112 #[.int .u64 (T : Int), .int .i64 (x : Int)] w fun e w' => e = .returned (.bool (T.testBit x)) ∧ Drawn0 w w' := by
  go_enter Tryz.func112, Tryz.ntmps112
  go_wp2
  go_ret
  refine ⟨?_, by repeat (first | exact Drawn0.refl _ | apply Drawn0.step)⟩
  have h1 : bits .and .u64 ((T : Int) / 2 ^ x) 1 = (((T / 2 ^ x) &&& 1 : Nat) : Int) := by
    rw [← and_nat (T / 2 ^ x) 1 (Nat.lt_of_le_of_lt (Nat.div_le_self _ _) hT) (by decide)]
    congr 1
  show Ending.returned (.bool (bits .and .u64 ((T : Int) / 2 ^ x) 1 == 1)) = _
  rw [h1, Nat.testBit, Nat.shiftRight_eq_div_pow, Nat.and_comm]
  congr 2
  rcases h : 1 &&& T / 2 ^ x with _ | n
  · rfl
  · have h2 : 1 &&& T / 2 ^ x < 2 := Nat.lt_succ_of_le Nat.and_le_left
    have h3 : n = 0 := by omega
    subst h3
    rfl
theorem with_calls (T x : Nat) (w : World) (hT : T < 18446744073709551616) (hx : x < 64) :
    Calls Tryz.prog 150 #[.int .u64 (T : Int), .int .i64 (x : Int)] w fun e w' => e = .returned (.int .u64 ((T ||| 2 ^ x : Nat) : Int)) ∧ Drawn0 w w' := by
  go_enter Tryz.func150, Tryz.ntmps150
  go_wp2
  go_ret
  refine ⟨?_, by repeat (first | exact Drawn0.refl _ | apply Drawn0.step)⟩
  have hp : 2 ^ x < 2 ^ 64 := Nat.pow_lt_pow_right (by decide) hx
  have h0 : IntKind.u64.wrap (2 ^ x) = ((2 ^ x : Nat) : Int) := by
    have h1 : ((2 ^ x : Nat) : Int) = (2 : Int) ^ x := by simp
    rw [← h1]
    exact wraps64 _ (Int.natCast_nonneg _) (by exact_mod_cast hp)
  show Ending.returned (.int .u64 (bits .or .u64 (T : Int) (IntKind.u64.wrap (2 ^ x)))) = _
  rw [h0, or_nat T (2 ^ x) hT hp]
end Go.Proofs.YtbpoapfkeinjnaaGreatDoor.Ld
