/- The engine of the yard and what it leans on, part 29. -/
import Derived.Test.YtbpoapfkeinjnaaGreatDoorK28
namespace Go.Proofs.YtbpoapfkeinjnaaGreatDoor.Ld
open Go.RowKit Go.Proofs.YtbpoapfkeinjnaaGreatDoorW.PrintWords Go.Proofs.YtbpoapfkeinjnaaGreatDoorW.PrintLast Go.Proofs.YtbpoapfkeinjnaaGreatDoorW.PrintMore
set_option linter.unusedVariables false
set_option linter.unusedSimpArgs false
set_option linter.unnecessarySimpa false
attribute [local go_sem] max2_int min2_int max_two min_two
structure Rn where
  task : Int
  prio : Int
  mem : Int
  pre : Int
  since : Int
def encRn (x : Rn) : List Value := [.int .i64 x.task, .int .i64 x.prio, .int .i64 x.mem, .int .i64 x.pre, .int .i64 x.since]
def memI (x : Int) : Int := if 1048576 < (if x < 0 then 0 else x) then 1048576 else (if x < 0 then 0 else x)
theorem memI_bd (x : Int) : 0 ≤ memI x ∧ memI x ≤ 1048576 := by unfold memI; split <;> split <;> omega
def cmpI (x y : Int) : Int := if x < y then -1 else if y < x then 1 else 0
theorem cmpI_bd (x y : Int) : -1 ≤ cmpI x y ∧ cmpI x y ≤ 1 := by unfold cmpI; split; omega; split <;> omega
theorem memory_calls (x : Int) (w : World) : Calls Tryz.prog 138 #[.int .i64 x] w fun e w' => e = .returned (.int .i64 (memI x)) ∧ Drawn0 w w' := by
  obtain ⟨m, hm⟩ : ∃ m, memI x = m := ⟨_, rfl⟩
  have HM := Aside0.mk hm
  rw [hm]
  clear hm
  go_enter Tryz.func138, Tryz.ntmps138
  go_wp2
  all_goals
    go_ret
    refine ⟨?_, Drawn0.refl _⟩
    rw [← HM.out]
    unfold memI
    show Ending.returned (Value.int _ _) = _
    congr 2
    split <;> split <;> omega
theorem drawn0_trans {a b c : World} (h : Drawn0 a b) (k : Drawn0 b c) : Drawn0 a c := by
  obtain ⟨m, rfl⟩ := k
  exact h.step m
theorem nan_calls (x : Int) (w : World) : Calls Tryz.prog 175 #[.int .i64 x] w fun e w' => e = .returned (.bool false) ∧ Drawn0 w w' := by
  have b1 : (x != x) = false := by simp
  go_enter Tryz.func175, Tryz.ntmps175
  go_wp2
  go_ret
  exact ⟨rfl, by repeat (first | exact Drawn0.refl _ | apply Drawn0.step)⟩
theorem cmp168_calls (x y : Int) (w : World) : Calls Tryz.prog 168 #[.int .i64 x, .int .i64 y] w fun e w' => e = .returned (.int .i64 (cmpI x y)) ∧ Drawn0 w w' := by
  by_cases h1 : x < y
  · have p1 : (x < y) = True := eq_true h1
    have E : cmpI x y = -1 := if_pos h1
    rw [E]
    clear E h1
    go_enter Tryz.func168, Tryz.ntmps168
    go_upto_region 2 with (go_at_call 175; (go_loud (refine (nan_calls x _).mono ?_)); rintro e w2 ⟨rfl, hd⟩; have HD2 := Aside0.mk hd; clear hd)
    go_wp2_with (go_at_call 175; (go_loud (refine (nan_calls y _).mono ?_)); rintro e w3 ⟨rfl, hd⟩; have HD3 := Aside0.mk (drawn0_trans HD2.out hd); clear hd)
    go_ret
    exact ⟨rfl, HD3.out⟩
  · have p1 : (x < y) = False := eq_false h1
    by_cases h2 : y < x
    · have p2 : (y < x) = True := eq_true h2
      have E : cmpI x y = 1 := by unfold cmpI; rw [if_neg h1, if_pos h2]
      rw [E]
      clear E h1 h2
      go_enter Tryz.func168, Tryz.ntmps168
      go_upto_region 2 with (go_at_call 175; (go_loud (refine (nan_calls x _).mono ?_)); rintro e w2 ⟨rfl, hd⟩; have HD2 := Aside0.mk hd; clear hd)
      go_wp2_with (go_at_call 175; (go_loud (refine (nan_calls y _).mono ?_)); rintro e w3 ⟨rfl, hd⟩; have HD3 := Aside0.mk (drawn0_trans HD2.out hd); clear hd)
      go_ret
      exact ⟨rfl, HD3.out⟩
    · have p2 : (y < x) = False := eq_false h2
      have E : cmpI x y = 0 := by unfold cmpI; rw [if_neg h1, if_neg h2]
      rw [E]
      clear E h1 h2
      go_enter Tryz.func168, Tryz.ntmps168
      go_upto_region 2 with (go_at_call 175; (go_loud (refine (nan_calls x _).mono ?_)); rintro e w2 ⟨rfl, hd⟩; have HD2 := Aside0.mk hd; clear hd)
      go_wp2_with (go_at_call 175; (go_loud (refine (nan_calls y _).mono ?_)); rintro e w3 ⟨rfl, hd⟩; have HD3 := Aside0.mk (drawn0_trans HD2.out hd); clear hd)
      go_ret
      exact ⟨rfl, HD3.out⟩
set_option maxHeartbeats 8000000 in
theorem or_calls (A : Option Addr) (c : Nat) (a b d : Int) (w : World) (hr : RI w A [a, b, d]) (ha : -1 ≤ a ∧ a ≤ 1) (hb : -1 ≤ b ∧ b ≤ 1) (hd : -1 ≤ d ∧ d ≤ 1) : Calls Tryz.prog 167 #[.slice A 3 c] w fun e w' => ∃ x : Int, e = .returned (.int .i64 x) ∧ -1 ≤ x ∧ x ≤ 1 ∧ Drawn0 w w' := by
  obtain ⟨ad, rfl, h0⟩ := RI.at_ hr 0 (by simp)
  obtain ⟨ad', h, h1⟩ := RI.at_ hr 1 (by simp)
  obtain rfl := Option.some.inj h
  obtain ⟨ad', h, h2⟩ := RI.at_ hr 2 (by simp)
  obtain rfl := Option.some.inj h
  clear hr h
  have h0 : w.cell? (ad.add 0) = some (.int .i64 a) := h0
  have h1 : w.cell? (ad.add 1) = some (.int .i64 b) := h1
  have h2 : w.cell? (ad.add 2) = some (.int .i64 d) := h2
  obtain ⟨W, hW⟩ : ∃ W : Nat → Int, W 0 = a ∧ W 1 = b ∧ W 2 = d := ⟨fun i => if i = 0 then a else if i = 1 then b else d, rfl, rfl, rfl⟩
  have HC := Aside0.mk (show ∀ i, i < 3 → w.cell? (ad.add i) = some (.int .i64 (W i)) ∧ -1 ≤ W i ∧ W i ≤ 1 from fun i hi => by
    rcases (show i = 0 ∨ i = 1 ∨ i = 2 by omega) with rfl | rfl | rfl
    · rw [hW.1]; exact ⟨h0, ha⟩
    · rw [hW.2.1]; exact ⟨h1, hb⟩
    · rw [hW.2.2]; exact ⟨h2, hd⟩)
  clear h0 h1 h2 ha hb hd hW
  go_enter Tryz.func167, Tryz.ntmps167
  go_wp2
  go_loopg [8] 4 (fun kq v8 wr => ∃ i : Nat, v8 = .int .i64 (i : Int) ∧ Aside0 (kq + i = 4 ∧ i ≤ 3 ∧ Drawn0 w wr))
  case atStart => exact ⟨0, rfl, ⟨by omega, by omega, Drawn0.refl _⟩⟩
  case round =>
    obtain ⟨i, rfl, hA⟩ := hrel
    obtain ⟨hki, hi3, hdr⟩ := hA.out
    have HD := Aside0.mk hdr
    have HK := Aside0.mk hki
    clear hA hdr hki
    by_cases hlt : i < 3
    · obtain ⟨hc, hbd⟩ := HC.out i hlt
      obtain ⟨x, hx⟩ : ∃ x, W i = x := ⟨_, rfl⟩
      rw [hx] at hc hbd
      have hc2 := pw_cell_below HD.out.below hc
      have p1 : (0 ≤ (i : Int)) = True := eq_true (by omega)
      have p2 : ((i : Int) < 3) = True := eq_true (by omega)
      clear hx hc
      by_cases h0 : x = 0
      · have b0 : (x != 0) = false := by rw [h0]; rfl
        go_wp2
        go_roundg (gk - 1)
        case measure => have := HK.out; omega
        case rel => exact ⟨i + 1, by rw [show ((i : Int) + 1) = ((i + 1 : Nat) : Int) by omega], ⟨by have := HK.out; omega, by omega, HD.out⟩⟩
      · have b0 : (x != 0) = true := by rw [bne_iff_ne]; exact h0
        go_wp2
        go_ret
        exact ⟨x, rfl, hbd.1, hbd.2, HD.out⟩
    · obtain rfl : i = 3 := by omega
      go_wp2
      go_ret
      exact ⟨0, rfl, by omega, by omega, HD.out⟩
set_option maxHeartbeats 8000000 in
set_option maxRecDepth 100000 in
theorem compare_calls (x y : Rn) (w : World) : Calls Tryz.prog 143 #[.agg (encRn x).toArray, .agg (encRn y).toArray] w fun e w' => ∃ c : Int, e = .returned (.int .i64 c) ∧ -1 ≤ c ∧ c ≤ 1 ∧ Below w.heap.size w w' := by
  obtain ⟨x0, x1, x2, x3, x4⟩ := x
  obtain ⟨y0, y1, y2, y3, y4⟩ := y
  show Calls Tryz.prog 143 #[.agg #[.int .i64 x0, .int .i64 x1, .int .i64 x2, .int .i64 x3, .int .i64 x4], .agg #[.int .i64 y0, .int .i64 y1, .int .i64 y2, .int .i64 y3, .int .i64 y4]] w _
  obtain ⟨w0, hw0⟩ : ∃ w0, w0 = (w.alloc (.cells #[.int .i64 x0, .int .i64 x1, .int .i64 x2, .int .i64 x3, .int .i64 x4] 200)).alloc (.cells #[.int .i64 y0, .int .i64 y1, .int .i64 y2, .int .i64 y3, .int .i64 y4] 200) := ⟨_, rfl⟩
  have HW0 := Aside0.mk hw0
  have hs : (w.alloc (.cells #[.int .i64 x0, .int .i64 x1, .int .i64 x2, .int .i64 x3, .int .i64 x4] 200)).heap.size = w.heap.size + 1 := size_alloc _ _
  have hb1 : Below w.heap.size w (w.alloc (.cells #[.int .i64 x0, .int .i64 x1, .int .i64 x2, .int .i64 x3, .int .i64 x4] 200)) := below_alloc (Below.refl _ _) _
  have hb2 : Below (w.heap.size + 1) (w.alloc (.cells #[.int .i64 x0, .int .i64 x1, .int .i64 x2, .int .i64 x3, .int .i64 x4] 200)) w0 := by rw [hw0, ← hs]; exact below_alloc (Below.refl _ _) _
  have hx : w0.heap[w.heap.size]? = some (.cells #[.int .i64 x0, .int .i64 x1, .int .i64 x2, .int .i64 x3, .int .i64 x4] 200 (0, 0)) := by rw [hw0]; exact blk_below (heap_alloc_new w _) (below_alloc (Below.refl _ _) _)
  have hy : w0.heap[w.heap.size + 1]? = some (.cells #[.int .i64 y0, .int .i64 y1, .int .i64 y2, .int .i64 y3, .int .i64 y4] 200 (0, 0)) := by rw [hw0, ← hs]; exact heap_alloc_new _ _
  have HB0 := Aside0.mk (show Below w.heap.size w w0 from by rw [hw0]; exact below_alloc (below_alloc (Below.refl _ _) _) _)
  have a0 : w0.cell? ⟨w.heap.size, 0, none⟩ = some (.int .i64 x0) := (blk_cell hx 0).trans rfl
  have a1 : w0.cell? ⟨w.heap.size, 1, none⟩ = some (.int .i64 x1) := (blk_cell hx 1).trans rfl
  have a4 : w0.cell? ⟨w.heap.size, 4, none⟩ = some (.int .i64 x4) := (blk_cell hx 4).trans rfl
  have b0 : w0.cell? ⟨w.heap.size + 1, 0, none⟩ = some (.int .i64 y0) := (blk_cell hy 0).trans rfl
  have b1 : w0.cell? ⟨w.heap.size + 1, 1, none⟩ = some (.int .i64 y1) := (blk_cell hy 1).trans rfl
  have b4 : w0.cell? ⟨w.heap.size + 1, 4, none⟩ = some (.int .i64 y4) := (blk_cell hy 4).trans rfl
  have QC := Aside0.mk (fun a b n => Calls.quiet_of ((cmp168_calls a b (w0.drewN n)).mono fun _ _ ⟨h1, h2⟩ => ⟨h1, h2.out⟩))
  clear hw0 hs hb1 hb2 hx hy
  go_enter Tryz.func143, Tryz.ntmps143
  go_upto_region 1 with (fail)
  rw [← HW0.out]
  clear HW0
  refine Qt.wp_region_quiet_tail 15 (by kernel_rfl) (by kernel_rfl) ?_
  simp only [List.take_succ_cons, List.take_zero, List.drop_succ_cons, List.drop_zero]
  repeat (go_big_quiet_step ((go_at_call 168; exact QC.out _ _ _)))
  refine wpQuiet_nil ?_
  intro w9 hw9
  have HB9 := Aside0.mk (below_step HB0.out (show Below w0.heap.size w0 w9 from by obtain ⟨m, rfl⟩ := hw9; exact pw_below_drewN (Below.refl _ _) m))
  clear hw9
  go_wp2_with (go_at_call 167; go_loud (refine (or_calls (some ⟨w9.heap.size, 0, none⟩) 3 (cmpI x1 y1) (cmpI y4 x4) (cmpI y0 x0) _ ?q1 (cmpI_bd _ _) (cmpI_bd _ _) (cmpI_bd _ _)).mono ?_); (case q1 => go_loud (exact ri_lit w9 [cmpI x1 y1, cmpI y4 x4, cmpI y0 x0] (by simp))); rintro e w10 ⟨c, rfl, h1, h2, h3⟩; have HC := Aside0.mk (And.intro h1 h2); have HB10 := Aside0.mk (below_step HB9.out (below_step (below_alloc (Below.refl _ _) _) h3.below)); clear h1 h2 h3)
  go_ret
  exact ⟨c, rfl, HC.out.1, HC.out.2, HB10.out⟩
set_option maxHeartbeats 8000000 in
set_option maxRecDepth 100000 in
theorem spares_calls (p m k : Int) (x : Rn) (w : World) : Calls Tryz.prog 141 #[.agg #[.int .i64 p, .int .i64 m, .int .i64 k], .agg (encRn x).toArray] w fun e w' => ∃ q : Bool, e = .returned (.bool q) ∧ Below w.heap.size w w' := by
  obtain ⟨x0, x1, x2, x3, x4⟩ := x
  show Calls Tryz.prog 141 #[.agg #[.int .i64 p, .int .i64 m, .int .i64 k], .agg #[.int .i64 x0, .int .i64 x1, .int .i64 x2, .int .i64 x3, .int .i64 x4]] w _
  have hs : (w.alloc (.cells #[.int .i64 p, .int .i64 m, .int .i64 k] 195)).heap.size = w.heap.size + 1 := size_alloc _ _
  obtain ⟨w0, hw0⟩ : ∃ w0, w0 = (w.alloc (.cells #[.int .i64 p, .int .i64 m, .int .i64 k] 195)).alloc (.cells #[.int .i64 x0, .int .i64 x1, .int .i64 x2, .int .i64 x3, .int .i64 x4] 200) := ⟨_, rfl⟩
  have HW0 := Aside0.mk hw0
  have hx : w0.heap[w.heap.size]? = some (.cells #[.int .i64 p, .int .i64 m, .int .i64 k] 195 (0, 0)) := by rw [hw0]; exact blk_below (heap_alloc_new w _) (below_alloc (Below.refl _ _) _)
  have hy : w0.heap[w.heap.size + 1]? = some (.cells #[.int .i64 x0, .int .i64 x1, .int .i64 x2, .int .i64 x3, .int .i64 x4] 200 (0, 0)) := by rw [hw0, ← hs]; exact heap_alloc_new _ _
  have HB0 := Aside0.mk (show Below w.heap.size w w0 from by rw [hw0]; exact below_alloc (below_alloc (Below.refl _ _) _) _)
  have a0 : w0.cell? ⟨w.heap.size, 0, none⟩ = some (.int .i64 p) := (blk_cell hx 0).trans rfl
  have a2 : w0.cell? ⟨w.heap.size, 2, none⟩ = some (.int .i64 k) := (blk_cell hx 2).trans rfl
  have b1 : w0.cell? ⟨w.heap.size + 1, 1, none⟩ = some (.int .i64 x1) := (blk_cell hy 1).trans rfl
  have b3 : w0.cell? ⟨w.heap.size + 1, 3, none⟩ = some (.int .i64 x3) := (blk_cell hy 3).trans rfl
  clear hw0 hs hx hy
  by_cases h1 : p ≤ x1
  · have p1 : (p ≤ x1) = True := eq_true h1
    clear h1
    go_enter Tryz.func141, Tryz.ntmps141
    go_upto_region 1 with (fail)
    rw [← HW0.out]
    clear HW0
    go_wp2
    go_ret
    exact ⟨_, rfl, HB0.out⟩
  · have p1 : (p ≤ x1) = False := eq_false h1
    clear h1
    go_enter Tryz.func141, Tryz.ntmps141
    go_upto_region 1 with (fail)
    rw [← HW0.out]
    clear HW0
    go_wp2
    go_ret
    exact ⟨_, rfl, HB0.out⟩
set_option maxHeartbeats 8000000 in
set_option maxRecDepth 100000 in
theorem vhas_calls (f sl p m k : Int) (w : World) : Calls Tryz.prog 144 #[.agg #[.int .i64 f, .int .i64 sl], .agg #[.int .i64 p, .int .i64 m, .int .i64 k]] w fun e w' => ∃ q : Bool, e = .returned (.bool q) ∧ (q = true ↔ 1 ≤ sl ∧ m ≤ f) ∧ Below w.heap.size w w' := by
  have hs : (w.alloc (.cells #[.int .i64 f, .int .i64 sl] 197)).heap.size = w.heap.size + 1 := size_alloc _ _
  obtain ⟨w0, hw0⟩ : ∃ w0, w0 = (w.alloc (.cells #[.int .i64 f, .int .i64 sl] 197)).alloc (.cells #[.int .i64 p, .int .i64 m, .int .i64 k] 195) := ⟨_, rfl⟩
  have HW0 := Aside0.mk hw0
  have hx : w0.heap[w.heap.size]? = some (.cells #[.int .i64 f, .int .i64 sl] 197 (0, 0)) := by rw [hw0]; exact blk_below (heap_alloc_new w _) (below_alloc (Below.refl _ _) _)
  have hy : w0.heap[w.heap.size + 1]? = some (.cells #[.int .i64 p, .int .i64 m, .int .i64 k] 195 (0, 0)) := by rw [hw0, ← hs]; exact heap_alloc_new _ _
  have HB0 := Aside0.mk (show Below w.heap.size w w0 from by rw [hw0]; exact below_alloc (below_alloc (Below.refl _ _) _) _)
  have a0 : w0.cell? ⟨w.heap.size, 0, none⟩ = some (.int .i64 f) := (blk_cell hx 0).trans rfl
  have a1 : w0.cell? ⟨w.heap.size, 1, none⟩ = some (.int .i64 sl) := (blk_cell hx 1).trans rfl
  have b1 : w0.cell? ⟨w.heap.size + 1, 1, none⟩ = some (.int .i64 m) := (blk_cell hy 1).trans rfl
  clear hw0 hs hx hy
  by_cases h1 : 1 ≤ sl
  · have p1 : (1 ≤ sl) = True := eq_true h1
    have H1 := Aside0.mk h1
    clear h1
    obtain ⟨q, hq⟩ : ∃ q, decide (m ≤ f) = q := ⟨_, rfl⟩
    have HQ := Aside0.mk hq
    go_enter Tryz.func144, Tryz.ntmps144
    go_upto_region 1 with (fail)
    rw [← HW0.out]
    clear HW0
    go_wp2
    go_ret
    exact ⟨q, rfl, ⟨fun h => ⟨H1.out, of_decide_eq_true (HQ.out.trans h)⟩, fun h => by rw [← HQ.out]; exact decide_eq_true h.2⟩, HB0.out⟩
  · have p1 : (1 ≤ sl) = False := eq_false h1
    have H1 := Aside0.mk h1
    clear h1
    go_enter Tryz.func144, Tryz.ntmps144
    go_upto_region 1 with (fail)
    rw [← HW0.out]
    clear HW0
    go_wp2
    go_ret
    exact ⟨rfl, HB0.out⟩
end Go.Proofs.YtbpoapfkeinjnaaGreatDoor.Ld
namespace Go.Proofs.YtbpoapfkeinjnaaGreatDoor.Ld
open Go.RowKit Go.Proofs.YtbpoapfkeinjnaaGreatDoorW.PrintWords Go.Proofs.YtbpoapfkeinjnaaGreatDoorW.PrintLast Go.Proofs.YtbpoapfkeinjnaaGreatDoorW.PrintMore
set_option linter.unusedVariables false
set_option linter.unusedSimpArgs false
set_option linter.unnecessarySimpa false
set_option maxHeartbeats 8000000 in
set_option maxRecDepth 100000 in
theorem Running_calls (S : Nat → Prop) (g : Nat) (K : EK) (e : Eng) (w : World) (H : EngAt S w g K e) (hN : e.N ≤ 12) :
    Calls Tryz.prog 145 #[.pointer (some ⟨g, 0, none⟩)] w fun en w' => ∃ v xs, en = .returned v ∧ Aside0 (NewRow w v xs w' ∧ xs.length ≤ e.N ∧ ∀ z, z ∈ xs → ∃ y : Nat, z = (y : Int) ∧ y < e.N) := by
  have HE := Aside0.mk H
  have c11 := H.ftasks
  obtain ⟨N, hNN⟩ : ∃ N, e.N = N := ⟨_, rfl⟩
  rw [hNN] at c11 hN ⊢
  have HNN := Aside0.mk hNN
  clear H hNN
  go_enter Tryz.func145, Tryz.ntmps145
  go_wp2
  go_loopg [2, 10] (N + 1) (fun kq v2 v10 wr => ∃ i : Nat, v10 = .int .i64 (i : Int) ∧ Aside0 (kq + i = N + 1 ∧ i ≤ N ∧ ∃ xs, NewRow w v2 xs wr ∧ xs.length ≤ i ∧ ∀ z, z ∈ xs → ∃ y : Nat, z = (y : Int) ∧ y < N))
  case atStart => exact ⟨0, rfl, ⟨by omega, by omega, [], ⟨RowAt.nil _ _ _ _, Below.refl _ _⟩, Nat.le_refl _, fun z hz => by cases hz⟩⟩
  case round =>
    obtain ⟨i, rfl, hA⟩ := hrel
    obtain ⟨hk, hi, xs, hrow, hlen, hid⟩ := hA.out
    have HR := Aside0.mk hrow
    have HK := Aside0.mk hk
    have HLN := Aside0.mk hlen
    have HID := Aside0.mk hid
    clear hA hrow hk c11 hlen hid
    by_cases hlt : i < N
    · have H1 := Aside0.mk (HE.out.keep HR.out.2)
      have hi2 : i < e.N := by rw [HNN.out]; exact hlt
      obtain ⟨ct, _, cl, _, _, _⟩ := H1.out.ftask i hi2
      have HLI := Aside0.mk (H1.out.flife i hi2).1
      have q1 : (0 ≤ (i : Int)) = True := eq_true (by omega)
      have q2 : ((i : Int) < (N : Int)) = True := eq_true (by omega)
      obtain ⟨st, hst⟩ : ∃ st, (e.life i).state = st := ⟨_, rfl⟩
      have HST := Aside0.mk hst
      clear hst
      by_cases h2 : st = 2
      · have b2 : (st == 2) = true := beq_iff_eq.2 h2
        go_wp2_with (first
          | (go_at_call 30; (with_reducible refine (State_calls (K.lp i) (e.life i) _ HLI.out).mono ?_); rintro en w2 ⟨rfl, hd⟩; rw [HST.out]; have HR2 := Aside0.mk (show RowAt (fun k => w.heap.size ≤ k) w2 3 1 u2 xs.length (ints xs) ∧ Below w.heap.size w w2 from ⟨HR.out.1.keep (Keep.of_below hd.below), below_step HR.out.2 hd.below⟩); clear hd)
          | (at_builtin; go_loud (refine print_append_of (w0 := w2) (Value.int .i64) 0 rfl (.tmp 21) (.tmp 23) 22 3 (.int .i64 0) 8 rfl Tryz.underlying22 info3 rfl (by decide) u2 xs (i : Int) rfl rfl rfl HR2.out.1.own (Below.refl _ _) (Nat.zero_le _) ?h2 ?_); (case h2 => have := HLN.out; omega); (intro v6 w6 ho6 hb6 hg6 hat6; have HN6 := Aside0.mk (new_more HR2.out.1 HR2.out.2 ho6 hg6 hat6); clear ho6 hb6 hg6 hat6)))
        go_roundg (gk - 1)
        case measure => have := HK.out; omega
        case rel =>
          exact ⟨i + 1, by rw [show ((i : Int) + 1) = ((i + 1 : Nat) : Int) by omega], ⟨by have := HK.out; omega, by omega, xs ++ [(i : Int)], HN6.out, by rw [List.length_append]; have := HLN.out; simp; omega, fun z hz => by
            rcases List.mem_append.1 hz with h | h
            · exact HID.out z h
            · exact ⟨i, List.mem_singleton.1 h, hlt⟩⟩⟩
      · have b2 : (st == 2) = false := beq_eq_false_iff_ne.2 h2
        go_wp2_with (go_at_call 30; (with_reducible refine (State_calls (K.lp i) (e.life i) _ HLI.out).mono ?_); rintro en w2 ⟨rfl, hd⟩; rw [HST.out]; have HR2 := Aside0.mk (show NewRow w u2 xs w2 from ⟨HR.out.1.keep (Keep.of_below hd.below), below_step HR.out.2 hd.below⟩); clear hd)
        go_roundg (gk - 1)
        case measure => have := HK.out; omega
        case rel => exact ⟨i + 1, by rw [show ((i : Int) + 1) = ((i + 1 : Nat) : Int) by omega], ⟨by have := HK.out; omega, by omega, xs, HR2.out, by have := HLN.out; omega, HID.out⟩⟩
    · have p2 : ((i : Int) < (N : Int)) = False := eq_false (by omega)
      go_wp2
      go_ret
      exact ⟨_, xs, rfl, HR.out, by have := HLN.out; omega, HID.out⟩
theorem info200 : (Tryz.prog.info? 200).map (fun i => (i.zero, i.size, i.bytes)) = some (some (.agg #[.int .i64 0, .int .i64 0, .int .i64 0, .int .i64 0, .int .i64 0]), 5, 40) := by kernel_rfl
theorem u159 : Tryz.prog.underlying 159 = some (.slice 200) := by kernel_rfl
def RnOk (N : Nat) (rs : List Rn) : Prop := ∀ r, r ∈ rs → ∃ y : Nat, r.task = (y : Int) ∧ y < N
set_option maxHeartbeats 8000000 in
set_option maxRecDepth 100000 in
theorem runs_calls (S : Nat → Prop) (g : Nat) (K : EK) (e : Eng) (Pr : Option Addr) (cq : Nat) (prs : List Int) (w : World) (H : EngAt S w g K e) (hN : e.N ≤ 12) (hp : RI w Pr prs) (hpl : prs.length = e.N) :
    Calls Tryz.prog 98 #[.pointer (some ⟨g, 0, none⟩), .slice Pr e.N cq] w fun en w' => ∃ v rs, en = .returned v ∧ Aside0 (NewR w 200 5 v rs.length (flat encRn rs) w' ∧ RnOk e.N rs ∧ rs.length ≤ 12) := by
  have HE := Aside0.mk H
  have HP := Aside0.mk (And.intro hp hpl)
  clear H hp hpl
  go_enter Tryz.func98, Tryz.ntmps98
  go_wp2_with (go_at_call 145; go_loud (refine (Running_calls S g K e _ HE.out hN).mono ?_); rintro en w2 ⟨v, xs, rfl, hA⟩; obtain ⟨A2, c2, rfl, hri⟩ := hA.out.1.ri; have HA := Aside0.mk hA.out; have HRI := Aside0.mk hri; clear hA hri)
  obtain ⟨n, hn⟩ : ∃ n, xs.length = n := ⟨_, rfl⟩
  have HN := Aside0.mk hn
  rw [hn]
  have hn12 : n ≤ 12 := by have := HA.out.2.1; omega
  clear hn
  go_loopg [4, 11] (n + 1) (fun kq v4 v11 wr => ∃ i : Nat, v11 = .int .i64 (i : Int) ∧ Aside0 (kq + i = n + 1 ∧ i ≤ n ∧ ∃ rs, NewR w2 200 5 v4 rs.length (flat encRn rs) wr ∧ rs.length = i ∧ RnOk e.N rs))
  case atStart => exact ⟨0, rfl, ⟨by omega, by omega, [], ⟨RowAt.nil _ _ _ _, Below.refl _ _⟩, rfl, fun r hr => by cases hr⟩⟩
  case round =>
    obtain ⟨i, rfl, hA⟩ := hrel
    obtain ⟨hk, hi, rs, hrow, hlen, hok⟩ := hA.out
    have HR := Aside0.mk hrow
    have HBL := Aside0.mk hrow.2
    have HBW := Aside0.mk (below_step HA.out.1.2 hrow.2)
    have HK := Aside0.mk hk
    have HLN := Aside0.mk hlen
    have HOK := Aside0.mk hok
    clear hA hrow hk hlen hok
    by_cases hlt : i < n
    · have H1 := Aside0.mk (HE.out.keep HBW.out)
      obtain ⟨y, hy, hyN⟩ : ∃ y : Nat, xs.getD i 0 = (y : Int) ∧ y < e.N := HA.out.2.2 _ (by rw [List.getD_eq_getElem?_getD, List.getElem?_eq_getElem (by rw [HN.out]; exact hlt)]; exact List.getElem_mem _)
      obtain ⟨ad, rfl, hcell⟩ := RI.at_ (ReadsOf.below HRI.out HBL.out) i (by rw [HN.out]; exact hlt)
      rw [hy] at hcell
      have c11 := H1.out.ftasks
      obtain ⟨ct, _, _, _, _, _⟩ := H1.out.ftask y hyN
      have q1 : (0 ≤ (y : Int)) = True := eq_true (by omega)
      have q2 : ((y : Int) < (e.N : Int)) = True := eq_true (by omega)
      have q3 : (0 ≤ (i : Int)) = True := eq_true (by omega)
      have q4 : ((i : Int) < (n : Int)) = True := eq_true (by omega)
      clear hy
      go_upto_region 5 with (fail)
      refine wp_region_any (by kernel_rfl) ?_
      obtain ⟨w1, hw1⟩ : ∃ w1 : World, w1 = { wr with drawn := wr.drawn + 1 } := ⟨_, rfl⟩
      rw [← hw1]
      have hb1 : Below wr.heap.size wr w1 := hw1 ▸ pw_below_drewN (Below.refl _ wr) 1
      have HB1 := Aside0.mk (show Below w.heap.size w w1 from below_step HBW.out hb1)
      have HR1 := Aside0.mk (HR.out.on hb1)
      obtain ⟨adp, rfl, hcp⟩ := RI.at_ (ReadsOf.below HP.out.1 HB1.out) y (by rw [HP.out.2]; exact hyN)
      obtain ⟨pv, hpv⟩ : ∃ pv, prs.getD y 0 = pv := ⟨_, rfl⟩
      rw [hpv] at hcp
      have H2 := Aside0.mk (HE.out.keep HB1.out)
      clear c11 ct hw1 hb1 hcell
      obtain ⟨_, cm, cl, _, cs, _⟩ := H2.out.ftask y hyN
      have HLI := Aside0.mk (H2.out.flife y hyN).1
      obtain ⟨me, hme⟩ : ∃ me, e.mem y = me := ⟨_, rfl⟩
      obtain ⟨si, hsi⟩ : ∃ si, e.since y = si := ⟨_, rfl⟩
      rw [hme] at cm
      rw [hsi] at cs
      have QS := Aside0.mk (fun k => Calls.quiet_of ((Stopped_calls (K.lp y) (e.life y) (w1.drewN k) HLI.out).mono fun _ _ ⟨h1, h2⟩ => ⟨h1, h2.out⟩))
      obtain ⟨sp, hsp⟩ : ∃ sp, (e.life y).stopped = sp := ⟨_, rfl⟩
      rw [hsp] at QS
      clear hpv hme hsi hsp
      refine wpAny_take (i := 0) (v := u4) rfl (by kernel_rfl) (by kernel_rfl) (by kernel_rfl) (fun _ _ _ h => h) (Or.inl ⟨rfl, fun w => rfl⟩) ?_
      refine Qt.wpAny_quiet_tail 20 ((List.range 19).map (· + 1)) (fun l => (l.drop 1).take 19) _ _ rfl rfl (by kernel_rfl) ?_
      simp only [List.take_succ_cons, List.take_zero, List.drop_succ_cons, List.drop_zero, List.cons_append, List.nil_append, Act.put, List.getElem_toArray, List.getElem_cons_succ, List.getElem_cons_zero, List.setIfInBounds_toArray, List.set_cons_succ, List.set_cons_zero]
      repeat (go_big_quiet_step ((go_at_call 146; exact QS.out _)))
      refine wpQuiet_nil ?_
      intro w9 hw9
      have hb9 : Below w1.heap.size w1 w9 := by obtain ⟨m, rfl⟩ := hw9; exact pw_below_drewN (Below.refl _ _) m
      obtain ⟨w10, hw10⟩ : ∃ w10, w10 = w9.alloc (.cells #[.int .i64 (y : Int), .int .i64 pv, .int .i64 me, .int .i64 sp, .int .i64 si] 200) := ⟨_, rfl⟩
      have hb10 : Below w9.heap.size w9 w10 := hw10 ▸ below_alloc (Below.refl _ w9) _
      have HX10 := Aside0.mk (show w10.heap[w9.heap.size]? = some (.cells #[.int .i64 (y : Int), .int .i64 pv, .int .i64 me, .int .i64 sp, .int .i64 si] 200 (0, 0)) from hw10 ▸ heap_alloc_new w9 _)
      have HR10 := Aside0.mk ((HR1.out.on hb9).on hb10)
      have HW10 := Aside0.mk hw10
      clear hw9 hb9 hw10 hb10 cm cl cs hcp
      go_wp2_with (at_builtin; rw [← HW10.out]; go_loud (refine wp_more rfl (.tmp 22) (.tmp 43) 159 200 (.agg #[.int .i64 0, .int .i64 0, .int .i64 0, .int .i64 0, .int .i64 0]) 5 40 rfl u159 info200 rfl (by decide) u4 rs.length w9.heap.size (flat encRn rs) [.int .i64 (y : Int), .int .i64 pv, .int .i64 me, .int .i64 sp, .int .i64 si] rfl rfl HR10.out rfl HX10.out ?h1 ?h2 (by decide) ?_); (case h1 => intro u hu; simp at hu; rcases hu with rfl | rfl | rfl | rfl | rfl <;> rfl); (case h2 => have := HLN.out; omega); intro v6 w6 hA6; have HN6 := Aside0.mk hA6.out.1; have HG6 := Aside0.mk hA6.out.2; clear hA6)
      have HRS := Aside0.mk (show NewR w2 200 5 v6 (rs ++ [(⟨(y : Int), pv, me, sp, si⟩ : Rn)]).length (flat encRn (rs ++ [(⟨(y : Int), pv, me, sp, si⟩ : Rn)])) w6 from by
        rw [List.length_append, flat_append]
        exact HN6.out)
      go_roundg (gk - 1)
      case measure => have := HK.out; omega
      case rel =>
        exact ⟨i + 1, by rw [show ((i : Int) + 1) = ((i + 1 : Nat) : Int) by omega], ⟨by have := HK.out; omega, by omega, _, HRS.out, by rw [List.length_append]; have := HLN.out; show rs.length + 1 = i + 1; omega, fun r hr => by
          rcases List.mem_append.1 hr with h | h
          · exact HOK.out r h
          · rw [List.mem_singleton] at h; exact ⟨y, by rw [h], hyN⟩⟩⟩
    · have p2 : ((i : Int) < (n : Int)) = False := eq_false (by omega)
      go_wp2
      go_ret
      exact ⟨_, rs, rfl, HR.out.behind HA.out.1.2, HOK.out, by have := HLN.out; omega⟩
end Go.Proofs.YtbpoapfkeinjnaaGreatDoor.Ld
namespace Go.Proofs.YtbpoapfkeinjnaaGreatDoor.Ld
open Go.RowKit Go.Proofs.YtbpoapfkeinjnaaGreatDoorW.PrintWords Go.Proofs.YtbpoapfkeinjnaaGreatDoorW.PrintLast Go.Proofs.YtbpoapfkeinjnaaGreatDoorW.PrintMore
set_option linter.unusedVariables false
set_option linter.unusedSimpArgs false
set_option linter.unnecessarySimpa false
def RnC (w : World) (b N i : Nat) (r : Rn) : Prop := (∃ y : Nat, r.task = (y : Int) ∧ y < N) ∧ w.cell? ⟨b, i * 5, none⟩ = some (.int .i64 r.task) ∧ w.cell? ⟨b, i * 5 + 1, none⟩ = some (.int .i64 r.prio) ∧ w.cell? ⟨b, i * 5 + 2, none⟩ = some (.int .i64 r.mem) ∧
  w.cell? ⟨b, i * 5 + 3, none⟩ = some (.int .i64 r.pre) ∧ w.cell? ⟨b, i * 5 + 4, none⟩ = some (.int .i64 r.since)
structure RnB (base : Nat) (w : World) (b n N : Nat) : Prop where
  at_ : ∀ i, i < n → ∃ r, RnC w b N i r
  fz : ∀ k, w.frozen? ⟨b, k, none⟩ = false
  lo : base ≤ b
  lt : b < w.heap.size
def RnV (base : Nat) (w : World) (A : Option Addr) (n N : Nat) : Prop := 0 < n → ∃ b, A = some ⟨b, 0, none⟩ ∧ RnB base w b n N
theorem RnC.same {w w' : World} {b N i : Nat} {r : Rn} (h : RnC w b N i r) (hb : w'.heap[b]? = w.heap[b]?) : RnC w' b N i r :=
  ⟨h.1, (World.cell?_of_block hb).trans h.2.1, (World.cell?_of_block hb).trans h.2.2.1, (World.cell?_of_block hb).trans h.2.2.2.1, (World.cell?_of_block hb).trans h.2.2.2.2.1, (World.cell?_of_block hb).trans h.2.2.2.2.2⟩
theorem RnB.below {base : Nat} {w w' : World} {b n N : Nat} (h : RnB base w b n N) (hb : Below w.heap.size w w') : RnB base w' b n N where
  at_ := fun i hi => by obtain ⟨r, hr⟩ := h.at_ i hi; exact ⟨r, hr.same (hb.block b h.lt)⟩
  fz := fun k => (World.frozen?_of_block (a := ⟨b, k, none⟩) (hb.block b h.lt)).trans (h.fz k)
  lo := h.lo
  lt := Nat.lt_of_lt_of_le h.lt hb.size
theorem RnV.below {base : Nat} {w w' : World} {A : Option Addr} {n N : Nat} (h : RnV base w A n N) (hb : Below w.heap.size w w') : RnV base w' A n N := fun hn => by
  obtain ⟨b, h1, h2⟩ := h hn
  exact ⟨b, h1, h2.below hb⟩
theorem RnV.of_row {w0 w : World} {A : Option Addr} {n c N : Nat} {rs : List Rn} (h : NewR w0 200 5 (.slice A n c) n (flat encRn rs) w) (hn : rs.length = n) (hok : RnOk N rs) : RnV w0.heap.size w A n N := fun h0 => by
  rcases h.1.own.2 with ⟨_, h1⟩ | ⟨b, cap, cur, h1, h2, h3, h4⟩
  · omega
  · injection h1 with h1 _ _
    refine ⟨b, h1, ⟨fun i hi => ?_, fun k => blk_frozen h3 k, h.1.fp b (by rw [h1]; rfl), blk_lt h3⟩⟩
    have hg : ∀ j, j < 5 → w.cell? ⟨b, i * 5 + j, none⟩ = (encRn (rs.getD i ⟨0, 0, 0, 0, 0⟩))[j]? := fun j hj => by
      have hf := flat_get (enc := encRn) (sz := 5) (fun _ => rfl) rs ⟨0, 0, 0, 0, 0⟩ i j (by omega) hj
      obtain ⟨u, hu⟩ : ∃ u, (encRn (rs.getD i ⟨0, 0, 0, 0, 0⟩))[j]? = some u := ⟨_, List.getElem?_eq_getElem (show j < (encRn _).length from hj)⟩
      rw [hu] at hf ⊢
      have hc := h.1.own.cells (g := b) (by rw [h1]; rfl) _ _ hf
      rw [show (⟨b, 0, none⟩ : Addr).add (i * 5 + j) = ⟨b, i * 5 + j, none⟩ from by unfold Addr.add; split <;> simp_all] at hc
      exact hc
    obtain ⟨r, hr⟩ : ∃ r, rs.getD i ⟨0, 0, 0, 0, 0⟩ = r := ⟨_, rfl⟩
    rw [hr] at hg
    have hm : r ∈ rs := by rw [← hr, List.getD_eq_getElem?_getD, List.getElem?_eq_getElem (by omega)]; exact List.getElem_mem _
    exact ⟨r, hok r hm, hg 0 (by omega), hg 1 (by omega), hg 2 (by omega), hg 3 (by omega), hg 4 (by omega)⟩
set_option maxHeartbeats 8000000 in
set_option maxRecDepth 100000 in
theorem ridx_calls (base : Nat) (A : Option Addr) (n c N : Nat) (p m k : Int) (w : World) (h : RnV base w A n N) (hn : n ≤ 12) :
    Calls Tryz.prog 165 #[.slice A n c, .func (.func 141) #[.agg #[.int .i64 p, .int .i64 m, .int .i64 k]] #[]] w fun e w' => ∃ i : Int, e = .returned (.int .i64 i) ∧ (i = -1 ∨ 0 ≤ i ∧ i < n) ∧ Below w.heap.size w w' := by
  have HV := Aside0.mk h
  clear h
  go_enter Tryz.func165, Tryz.ntmps165
  go_wp2
  go_loopg [8] (n + 1) (fun kq v8 wr => ∃ j : Nat, v8 = .int .i64 (j : Int) ∧ Aside0 (kq + j = n + 1 ∧ j ≤ n ∧ Below w.heap.size w wr))
  case atStart => exact ⟨0, rfl, ⟨by omega, by omega, Below.refl _ _⟩⟩
  case round =>
    obtain ⟨j, rfl, hA⟩ := hrel
    obtain ⟨hkq, hj, hb⟩ := hA.out
    have HB := Aside0.mk hb
    have HKQ := Aside0.mk hkq
    clear hA hb hkq
    by_cases hlt : j < n
    · obtain ⟨b, rfl, hB⟩ := HV.out (by omega)
      obtain ⟨⟨r0, r1, r2, r3, r4⟩, hr⟩ := (hB.below HB.out).at_ j hlt
      obtain ⟨hy, d0, d1, d2, d3, d4⟩ := hr
      have p1 : (0 ≤ (j : Int)) = True := eq_true (by omega)
      have p2 : ((j : Int) < (n : Int)) = True := eq_true (by omega)
      clear hB hy
      go_upto_if 16 with (go_at_call 141; go_loud (refine (spares_calls p m k ⟨r0, r1, r2, r3, r4⟩ _).mono ?_); rintro e w2 ⟨q, rfl, hd⟩; have HB2 := Aside0.mk (below_step HB.out hd); clear hd)
      cases q
      · go_wp2
        go_roundg (gk - 1)
        case measure => have := HKQ.out; omega
        case rel => exact ⟨j + 1, by rw [show ((j : Int) + 1) = ((j + 1 : Nat) : Int) by omega], ⟨by have := HKQ.out; omega, by omega, HB2.out⟩⟩
      · go_wp2
        go_ret
        exact ⟨(j : Int), rfl, .inr ⟨by omega, by omega⟩, HB2.out⟩
    · have p2 : ((j : Int) < (n : Int)) = False := eq_false (by omega)
      go_wp2
      go_ret
      exact ⟨-1, rfl, .inl rfl, HB.out⟩
theorem below_setCells {base b : Nat} (hb : base ≤ b) : ∀ (vs : List Value) (o : Nat) (w : World), Below base w (w.setCells b o vs) ∧ (w.setCells b o vs).heap.size = w.heap.size
  | [], _, _ => ⟨Below.refl _ _, rfl⟩
  | v :: vs, o, w => by
    have h1 : Below base w (w.setCell ⟨b, o, none⟩ v) := ⟨rfl, rfl, rfl, by simp [World.setCell], fun k hk => Below.heap_setCell _ _ _ _ (fun e => by have e' : k = b := e; omega)⟩
    have h2 := below_setCells hb vs (o + 1) (w.setCell ⟨b, o, none⟩ v)
    refine ⟨⟨h2.1.os.trans h1.os, h2.1.tape.trans h1.tape, h2.1.output.trans h1.output, Nat.le_trans h1.size h2.1.size, fun k hk => (h2.1.block k hk).trans (h1.block k hk)⟩, h2.2.trans (by simp [World.setCell])⟩
def putRn (w : World) (b i : Nat) (r : Rn) : World := w.setCells b (i * 5) (encRn r)
theorem putRn_eq (w : World) (b i : Nat) (r : Rn) : putRn w b i r = ((((w.setCell ⟨b, i * 5, none⟩ (.int .i64 r.task)).setCell ⟨b, i * 5 + 1, none⟩ (.int .i64 r.prio)).setCell ⟨b, i * 5 + 2, none⟩ (.int .i64 r.mem)).setCell ⟨b, i * 5 + 3, none⟩ (.int .i64 r.pre)).setCell ⟨b, i * 5 + 4, none⟩ (.int .i64 r.since) := rfl
theorem RnB.put {base : Nat} {w : World} {b n N : Nat} (h : RnB base w b n N) (i : Nat) (hi : i < n) (r : Rn) (hr : ∃ y : Nat, r.task = (y : Int) ∧ y < N) : RnB base (putRn w b i r) b n N ∧ Below base w (putRn w b i r) ∧ (putRn w b i r).heap.size = w.heap.size := by
  have hbs := below_setCells h.lo (encRn r) (i * 5) w
  refine ⟨⟨fun k hk => ?_, fun k => (World.frozen?_setCells b (encRn r) (i * 5) w ⟨b, k, none⟩).trans (h.fz k), h.lo, by rw [show (putRn w b i r).heap.size = w.heap.size from hbs.2]; exact h.lt⟩, hbs.1, hbs.2⟩
  obtain ⟨r', h1, c0, c1, c2, c3, c4⟩ := h.at_ k hk
  by_cases hki : k = i
  · subst hki
    have hs : ∀ j, j < (encRn r).length → (w.cell? ⟨b, k * 5 + j, none⟩).isSome = true := fun j hj => by
      have hj : j < 5 := hj
      rcases (show j = 0 ∨ j = 1 ∨ j = 2 ∨ j = 3 ∨ j = 4 by omega) with rfl | rfl | rfl | rfl | rfl
      · rw [Nat.add_zero, c0]; rfl
      · rw [c1]; rfl
      · rw [c2]; rfl
      · rw [c3]; rfl
      · rw [c4]; rfl
    have hin := World.cell?_setCells_in b (encRn r) (k * 5) w hs
    exact ⟨r, hr, hin 0 (by show 0 < 5; omega), hin 1 (by show 1 < 5; omega), hin 2 (by show 2 < 5; omega), hin 3 (by show 3 < 5; omega), hin 4 (by show 4 < 5; omega)⟩
  · have ho : ∀ j, j < 5 → (putRn w b i r).cell? ⟨b, k * 5 + j, none⟩ = w.cell? ⟨b, k * 5 + j, none⟩ := fun j hj =>
      World.cell?_setCells_out b (encRn r) (i * 5) w ⟨b, k * 5 + j, none⟩ (fun _ _ => by show k * 5 + j < i * 5 ∨ i * 5 + 5 ≤ k * 5 + j; omega)
    exact ⟨r', h1, (ho 0 (by omega)).trans c0, (ho 1 (by omega)).trans c1, (ho 2 (by omega)).trans c2, (ho 3 (by omega)).trans c3, (ho 4 (by omega)).trans c4⟩
theorem RnB.cut {base : Nat} {w : World} {b n N : Nat} (h : RnB base w b n N) (i : Nat) (hi : i ≤ n) (vs : List Value) : RnB base (w.setCells b (i * 5) vs) b i N ∧ Below base w (w.setCells b (i * 5) vs) := by
  have hbs := below_setCells h.lo vs (i * 5) w
  refine ⟨⟨fun k hk => ?_, fun k => (World.frozen?_setCells b vs (i * 5) w ⟨b, k, none⟩).trans (h.fz k), h.lo, by rw [hbs.2]; exact h.lt⟩, hbs.1⟩
  obtain ⟨r', h1, c0, c1, c2, c3, c4⟩ := h.at_ k (by omega)
  have ho : ∀ j, j < 5 → (w.setCells b (i * 5) vs).cell? ⟨b, k * 5 + j, none⟩ = w.cell? ⟨b, k * 5 + j, none⟩ := fun j hj =>
    World.cell?_setCells_out b vs (i * 5) w ⟨b, k * 5 + j, none⟩ (fun _ _ => by show k * 5 + j < i * 5 ∨ _; omega)
  exact ⟨r', h1, (ho 0 (by omega)).trans c0, (ho 1 (by omega)).trans c1, (ho 2 (by omega)).trans c2, (ho 3 (by omega)).trans c3, (ho 4 (by omega)).trans c4⟩
theorem run_clear5 (w : World) (t ty : TypeId) (ht : Tryz.prog.underlying t = some (.slice 200)) (hv : ∀ w, (zeroValue 200).run Tryz.prog w = .ok (.agg #[.int .i64 0, .int .i64 0, .int .i64 0, .int .i64 0, .int .i64 0]) w) (b o n c : Nat) (hn : 0 < n)
    (hc : ∀ j, j < n * 5 → (w.cell? ⟨b, o + j, none⟩).isSome = true) (hf : ∀ j, w.frozen? ⟨b, o + j, none⟩ = false) :
    (Builtin.clear_ #[t] ty #[.slice (some ⟨b, o, none⟩) n c]).run Tryz.prog w = .ok (.tuple #[]) (w.setCells b o (List.replicate (n * 5) (.int .i64 0))) := by
  have hzc : (Builtin.zeroCells #[.int .i64 0, .int .i64 0, .int .i64 0, .int .i64 0, .int .i64 0] n).toList = List.replicate (n * 5) (.int .i64 0) := by
    simp [Builtin.zeroCells]
    apply List.ext_getElem
    · simp
    · intro i h1 h2
      simp only [List.getElem_map, List.getElem_range, List.getElem_replicate]
      rcases (show i % 5 = 0 ∨ i % 5 = 1 ∨ i % 5 = 2 ∨ i % 5 = 3 ∨ i % 5 = 4 by omega) with h | h | h | h | h <;> rw [h] <;> rfl
  have hst := run_storeCells_cells (P := Tryz.prog) b o (List.replicate (n * 5) (.int .i64 0)) 0 w (by simpa using hc) (by intro j hj; simpa using hf j) (by intro v hv'; rw [List.eq_of_mem_replicate hv']; rfl)
  simp only [Nat.add_zero] at hst
  obtain ⟨m, rfl⟩ : ∃ m, n = m + 1 := ⟨n - 1, by omega⟩
  have hcl : (Value.agg #[.int .i64 0, .int .i64 0, .int .i64 0, .int .i64 0, .int .i64 0]).cells = #[.int .i64 0, .int .i64 0, .int .i64 0, .int .i64 0, .int .i64 0] := by kernel_rfl
  simp [Builtin.clear_, run_underlying ht, hv]
  rw [hcl, hzc, hst]
  rfl
set_option maxHeartbeats 8000000 in
set_option maxRecDepth 100000 in
theorem rdel_calls (base : Nat) (A : Option Addr) (n c N : Nat) (p m k : Int) (w : World) (h : RnV base w A n N) (hbw : base ≤ w.heap.size) (hn : n ≤ 12) (hc : n ≤ c) (hc2 : c ≤ 9223372036854775807) :
    Calls Tryz.prog 139 #[.slice A n c, .func (.func 141) #[.agg #[.int .i64 p, .int .i64 m, .int .i64 k]] #[]] w fun e w' => ∃ A' n', e = .returned (.slice A' n' c) ∧ Aside0 (n' ≤ n ∧ RnV base w' A' n' N ∧ Below base w w') := by
  have HV := Aside0.mk h
  have HBW := Aside0.mk hbw
  clear h hbw
  go_enter Tryz.func139, Tryz.ntmps139
  go_upto_region 2 with (go_at_call 165; go_loud (refine (ridx_calls base A n c N p m k _ HV.out hn).mono ?_); rintro e w2 ⟨i0, rfl, h1, h2⟩; have HI0 := Aside0.mk h1; have HB2 := Aside0.mk h2; clear h1 h2)
  by_cases hneg : i0 = -1
  · have b1 : (i0 == -1) = true := beq_iff_eq.2 hneg
    go_wp2
    go_ret
    exact ⟨A, n, rfl, ⟨Nat.le_refl _, HV.out.below HB2.out, HB2.out.mono HBW.out⟩⟩
  · have b1 : (i0 == -1) = false := beq_eq_false_iff_ne.2 hneg
    obtain ⟨i, rfl⟩ : ∃ i : Nat, i0 = (i : Int) := ⟨i0.toNat, by rcases HI0.out with h | h; exact absurd h hneg; omega⟩
    have hin : i < n := by rcases HI0.out with h | h; omega; omega
    obtain ⟨b, rfl, hB0⟩ := HV.out (by omega)
    have HB0 := Aside0.mk (hB0.below HB2.out)
    have HBL := Aside0.mk (HB2.out.mono HBW.out)
    clear hB0 hneg
    go_wp2
    go_loopg [5, 6] (n - i) (fun kq v5 v6 wr => ∃ i j : Nat, v5 = .int .i64 (i : Int) ∧ v6 = .int .i64 (j : Int) ∧ Aside0 (kq + j = n + 1 ∧ i < j ∧ j ≤ n ∧ RnB base wr b n N ∧ Below base w wr ∧ w.heap.size ≤ wr.heap.size))
    case atStart => exact ⟨i, i + 1, rfl, by rw [show ((i : Int) + 1) = ((i + 1 : Nat) : Int) by omega], ⟨by omega, by omega, by omega, HB0.out, HBL.out, HBL.out.size⟩⟩
    case round =>
      obtain ⟨i, j, rfl, rfl, hA⟩ := hrel
      obtain ⟨hkq, hij, hj, hb, hbl, hsz⟩ := hA.out
      have HB := Aside0.mk hb
      have HBL := Aside0.mk hbl
      have HKQ := Aside0.mk hkq
      have HSZ := Aside0.mk hsz
      clear hA hb hkq hbl hsz
      by_cases hlt : j < n
      · obtain ⟨⟨r0, r1, r2, r3, r4⟩, hy, d0, d1, d2, d3, d4⟩ := HB.out.at_ j hlt
        have HY := Aside0.mk hy
        have p1 : (0 ≤ (j : Int)) = True := eq_true (by omega)
        have p2 : ((j : Int) < (n : Int)) = True := eq_true (by omega)
        have p3 : (0 ≤ (i : Int)) = True := eq_true (by omega)
        have p4 : ((i : Int) < (n : Int)) = True := eq_true (by omega)
        clear hy
        go_upto_region 8 with (fail)
        obtain ⟨w3, hw3⟩ : ∃ w3, w3 = wr.alloc (.cells #[.int .i64 r0, .int .i64 r1, .int .i64 r2, .int .i64 r3, .int .i64 r4] 200) := ⟨_, rfl⟩
        have hb3 : Below wr.heap.size wr w3 := hw3 ▸ below_alloc (Below.refl _ wr) _
        have hx3 : w3.heap[wr.heap.size]? = some (.cells #[.int .i64 r0, .int .i64 r1, .int .i64 r2, .int .i64 r3, .int .i64 r4] 200 (0, 0)) := hw3 ▸ heap_alloc_new wr _
        have e0 : w3.cell? ⟨wr.heap.size, 0, none⟩ = some (.int .i64 r0) := (blk_cell hx3 0).trans rfl
        have e1 : w3.cell? ⟨wr.heap.size, 1, none⟩ = some (.int .i64 r1) := (blk_cell hx3 1).trans rfl
        have e2 : w3.cell? ⟨wr.heap.size, 2, none⟩ = some (.int .i64 r2) := (blk_cell hx3 2).trans rfl
        have e3 : w3.cell? ⟨wr.heap.size, 3, none⟩ = some (.int .i64 r3) := (blk_cell hx3 3).trans rfl
        have e4 : w3.cell? ⟨wr.heap.size, 4, none⟩ = some (.int .i64 r4) := (blk_cell hx3 4).trans rfl
        rw [← hw3]
        have HB3 := Aside0.mk hb3
        clear hw3 hb3 hx3 d0 d1 d2 d3 d4
        go_upto_if 29 with (go_at_call 141; go_loud (refine (spares_calls p m k ⟨r0, r1, r2, r3, r4⟩ _).mono ?_); rintro e w4 ⟨q, rfl, hd⟩; have HB4 := Aside0.mk (below_step HB3.out hd); have e0' := pw_cell_below hd e0; have e1' := pw_cell_below hd e1; have e2' := pw_cell_below hd e2; have e3' := pw_cell_below hd e3; have e4' := pw_cell_below hd e4; clear hd)
        have HR4 := Aside0.mk (HB.out.below HB4.out)
        have HBL4 := Aside0.mk (HBL.out.trans (HB4.out.mono (Nat.le_trans HBW.out HSZ.out)))
        have HSZ4 := Aside0.mk (Nat.le_trans HSZ.out HB4.out.size)
        clear e0 e1 e2 e3 e4
        cases q
        · obtain ⟨⟨s0, s1, s2, s3, s4⟩, _, f0, f1, f2, f3, f4⟩ := HR4.out.at_ i (by omega)
          have f5 := HR4.out.fz
          go_wp2
          have hput := HR4.out.put i (by omega) ⟨r0, r1, r2, r3, r4⟩ HY.out
          rw [putRn_eq] at hput
          obtain ⟨w5, hw5⟩ : ∃ w5, w5 = ((((w4.setCell ⟨b, i * 5, none⟩ (.int .i64 r0)).setCell ⟨b, i * 5 + 1, none⟩ (.int .i64 r1)).setCell ⟨b, i * 5 + 2, none⟩ (.int .i64 r2)).setCell ⟨b, i * 5 + 3, none⟩ (.int .i64 r3)).setCell ⟨b, i * 5 + 4, none⟩ (.int .i64 r4) := ⟨_, rfl⟩
          rw [← hw5] at hput ⊢
          have HPUT := Aside0.mk hput
          clear hw5 hput f0 f1 f2 f3 f4 f5 e0' e1' e2' e3' e4'
          go_roundg (gk - 1)
          case measure => have := HKQ.out; omega
          case rel => exact ⟨i + 1, j + 1, by rw [show ((i : Int) + 1) = ((i + 1 : Nat) : Int) by omega], by rw [show ((j : Int) + 1) = ((j + 1 : Nat) : Int) by omega], ⟨by have := HKQ.out; omega, by omega, by omega, HPUT.out.1, HBL4.out.trans HPUT.out.2.1, by rw [HPUT.out.2.2]; exact HSZ4.out⟩⟩
        · go_wp2
          go_roundg (gk - 1)
          case measure => have := HKQ.out; omega
          case rel => exact ⟨i, j + 1, rfl, by rw [show ((j : Int) + 1) = ((j + 1 : Nat) : Int) by omega], ⟨by have := HKQ.out; omega, by omega, by omega, HR4.out, HBL4.out, HSZ4.out⟩⟩
      · obtain rfl : n = j := by omega
        have p2 : ((n : Int) < (n : Int)) = False := eq_false (by omega)
        have hcl : ∀ ty, (Builtin.clear_ #[159] ty #[.slice (some ⟨b, i * 5, none⟩) (n - i) (c - i)]).run Tryz.prog wr = .ok (.tuple #[]) (wr.setCells b (i * 5) (List.replicate ((n - i) * 5) (.int .i64 0))) := fun ty =>
          run_clear5 wr 159 ty u159 (fun w => by kernel_rfl) b (i * 5) (n - i) (c - i) (by omega) (fun t ht => by
            obtain ⟨r, _, g0, g1, g2, g3, g4⟩ := HB.out.at_ (i + t / 5) (by omega)
            rcases (show t % 5 = 0 ∨ t % 5 = 1 ∨ t % 5 = 2 ∨ t % 5 = 3 ∨ t % 5 = 4 by omega) with h | h | h | h | h
            · rw [show i * 5 + t = (i + t / 5) * 5 by omega, g0]; rfl
            · rw [show i * 5 + t = (i + t / 5) * 5 + 1 by omega, g1]; rfl
            · rw [show i * 5 + t = (i + t / 5) * 5 + 2 by omega, g2]; rfl
            · rw [show i * 5 + t = (i + t / 5) * 5 + 3 by omega, g3]; rfl
            · rw [show i * 5 + t = (i + t / 5) * 5 + 4 by omega, g4]; rfl) (fun t => HB.out.fz _)
        have HCUT := Aside0.mk (HB.out.cut i (by omega) (List.replicate ((n - i) * 5) (.int .i64 0)))
        have q1 : (0 ≤ (i : Int)) = True := eq_true (by omega)
        have q2 : ((i : Int) ≤ (n : Int)) = True := eq_true (by omega)
        have hic : i ≤ c := by omega
        have hin2 : i ≤ n := by omega
        clear hlt
        go_wp2
        go_ret
        exact ⟨_, i, rfl, ⟨hin2, fun _ => ⟨b, rfl, HCUT.out.1⟩, HBL.out.trans HCUT.out.2⟩⟩
end Go.Proofs.YtbpoapfkeinjnaaGreatDoor.Ld
