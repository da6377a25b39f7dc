/- The engine of the yard and what it leans on, part 3. -/
import Derived.Test.YtbpoapfkeinjnaaGreatDoorK02
import Derived.StillTailTactics
namespace Go.Proofs.YtbpoapfkeinjnaaGreatDoor.Ld
open Go.RowKit Go.Proofs.YtbpoapfkeinjnaaGreatDoorW.PrintWords Go.Proofs.YtbpoapfkeinjnaaGreatDoorW.PrintLast Go.Proofs.YtbpoapfkeinjnaaGreatDoorW.PrintMore
set_option linter.unusedVariables false
set_option linter.unusedSimpArgs false
attribute [local go_sem] max2_int min2_int max_two min_two

structure LifeS where
  state : Int
  epoch : Int
  missed : Int
  stopped : Int
  tries : Int
  preempts : Int
def LifeAt (w : World) (g : Nat) (s : LifeS) : Prop := w.heap[g]? = some (.cells #[.int .i64 s.state, .int .i64 s.epoch, .int .i64 s.missed, .int .i64 s.stopped, .int .i64 s.tries, .int .i64 s.preempts] 120 (0, 0))
theorem LifeAt.below {w w1 : World} {g : Nat} {s : LifeS} (h : LifeAt w g s) (hb : Below w.heap.size w w1) : LifeAt w1 g s := blk_below h hb
theorem LifeAt.lt {w : World} {g : Nat} {s : LifeS} (h : LifeAt w g s) : g < w.heap.size := blk_lt h
theorem LifeAt.frozen {w : World} {g : Nat} {s : LifeS} (h : LifeAt w g s) (k : Nat) : w.frozen? ⟨g, k, none⟩ = false := blk_frozen h k
theorem LifeAt.c0 {w : World} {g : Nat} {s : LifeS} (h : LifeAt w g s) : w.cell? ⟨g, 0, none⟩ = some (.int .i64 s.state) := (blk_cell h 0).trans rfl
theorem LifeAt.c1 {w : World} {g : Nat} {s : LifeS} (h : LifeAt w g s) : w.cell? ⟨g, 1, none⟩ = some (.int .i64 s.epoch) := (blk_cell h 1).trans rfl
theorem LifeAt.c2 {w : World} {g : Nat} {s : LifeS} (h : LifeAt w g s) : w.cell? ⟨g, 2, none⟩ = some (.int .i64 s.missed) := (blk_cell h 2).trans rfl
theorem LifeAt.c3 {w : World} {g : Nat} {s : LifeS} (h : LifeAt w g s) : w.cell? ⟨g, 3, none⟩ = some (.int .i64 s.stopped) := (blk_cell h 3).trans rfl
theorem LifeAt.c4 {w : World} {g : Nat} {s : LifeS} (h : LifeAt w g s) : w.cell? ⟨g, 4, none⟩ = some (.int .i64 s.tries) := (blk_cell h 4).trans rfl
theorem LifeAt.c5 {w : World} {g : Nat} {s : LifeS} (h : LifeAt w g s) : w.cell? ⟨g, 5, none⟩ = some (.int .i64 s.preempts) := (blk_cell h 5).trans rfl

set_option maxHeartbeats 8000000 in
set_option maxRecDepth 100000 in
theorem State_calls (g : Nat) (s : LifeS) (w : World) (ha : LifeAt w g s) : Calls Tryz.prog 30 #[.pointer (some ⟨g, 0, none⟩)] w fun e w' => e = .returned (.int .i64 s.state) ∧ Drawn0 w w' := by
  have c := ha.c0
  go_enter Tryz.func30, Tryz.ntmps30
  go_wp2
  go_ret
  exact ⟨rfl, by repeat (first | exact Drawn0.refl _ | apply Drawn0.step)⟩

set_option maxHeartbeats 8000000 in
set_option maxRecDepth 100000 in
theorem Epoch_calls (g : Nat) (s : LifeS) (w : World) (ha : LifeAt w g s) : Calls Tryz.prog 109 #[.pointer (some ⟨g, 0, none⟩)] w fun e w' => e = .returned (.int .i64 s.epoch) ∧ Drawn0 w w' := by
  have c := ha.c1
  go_enter Tryz.func109, Tryz.ntmps109
  go_wp2
  go_ret
  exact ⟨rfl, by repeat (first | exact Drawn0.refl _ | apply Drawn0.step)⟩

set_option maxHeartbeats 8000000 in
set_option maxRecDepth 100000 in
theorem Missed_calls (g : Nat) (s : LifeS) (w : World) (ha : LifeAt w g s) : Calls Tryz.prog 87 #[.pointer (some ⟨g, 0, none⟩)] w fun e w' => e = .returned (.int .i64 s.missed) ∧ Drawn0 w w' := by
  have c := ha.c2
  go_enter Tryz.func87, Tryz.ntmps87
  go_wp2
  go_ret
  exact ⟨rfl, by repeat (first | exact Drawn0.refl _ | apply Drawn0.step)⟩

set_option maxHeartbeats 8000000 in
set_option maxRecDepth 100000 in
theorem Final_calls (g : Nat) (s : LifeS) (w : World) (ha : LifeAt w g s) : Calls Tryz.prog 76 #[.pointer (some ⟨g, 0, none⟩)] w fun e w' => e = .returned (.bool (decide (5 ≤ s.state))) ∧ Drawn0 w w' := by
  have c := ha.c0
  go_enter Tryz.func76, Tryz.ntmps76
  go_wp2
  go_ret
  exact ⟨rfl, by repeat (first | exact Drawn0.refl _ | apply Drawn0.step)⟩

set_option maxHeartbeats 8000000 in
set_option maxRecDepth 100000 in
theorem Right_calls (g : Nat) (s : LifeS) (ep : Int) (w : World) (ha : LifeAt w g s) : Calls Tryz.prog 61 #[.pointer (some ⟨g, 0, none⟩), .int .i64 ep] w fun e w' => e = .returned (.int .i64 (if s.state = 2 ∧ ep = s.epoch then 0 else 7)) ∧ Drawn0 w w' := by
  have c := ha.c0
  have c1 := ha.c1
  by_cases h1 : s.state = 2
  · have b1 : (s.state == 2) = true := by simp [h1]
    have b2 : (s.state != 2) = false := by simp [h1]
    by_cases h2 : ep = s.epoch
    · have HE : Aside0 ((if s.state = 2 ∧ ep = s.epoch then (0 : Int) else 7) = 0) := ⟨if_pos ⟨h1, h2⟩⟩
      have b3 : (ep == s.epoch) = true := by simp [h2]
      have b4 : (ep != s.epoch) = false := by simp [h2]
      rw [HE.out]
      clear h1 h2
      go_enter Tryz.func61, Tryz.ntmps61
      go_wp2
      go_ret
      exact ⟨rfl, by repeat (first | exact Drawn0.refl _ | apply Drawn0.step)⟩
    · have HE : Aside0 ((if s.state = 2 ∧ ep = s.epoch then (0 : Int) else 7) = 7) := ⟨if_neg (fun h => h2 h.2)⟩
      have b3 : (ep == s.epoch) = false := by simp [h2]
      have b4 : (ep != s.epoch) = true := by simp [h2]
      rw [HE.out]
      clear h1 h2
      go_enter Tryz.func61, Tryz.ntmps61
      go_wp2
      go_ret
      exact ⟨rfl, by repeat (first | exact Drawn0.refl _ | apply Drawn0.step)⟩
  · have HE : Aside0 ((if s.state = 2 ∧ ep = s.epoch then (0 : Int) else 7) = 7) := ⟨if_neg (fun h => h1 h.1)⟩
    have b1 : (s.state == 2) = false := by simp [h1]
    have b2 : (s.state != 2) = true := by simp [h1]
    rw [HE.out]
    clear h1
    go_enter Tryz.func61, Tryz.ntmps61
    go_wp2
    go_ret
    exact ⟨rfl, by repeat (first | exact Drawn0.refl _ | apply Drawn0.step)⟩

def Mask (a m : Int) : Prop := (a = 0 ∧ m = 1) ∨ (a = 1 ∧ m = 2) ∨ (a = 2 ∧ m = 4) ∨ (a = 3 ∧ m = 8) ∨ (a = 4 ∧ m = 16)
set_option maxHeartbeats 8000000 in
set_option maxRecDepth 100000 in
theorem of1_calls (a m : Int) (h : Mask a m) (b : Nat) (w : World) (hc : w.cell? ⟨b, 0, none⟩ = some (.int .i64 a)) : Calls Tryz.prog 89 #[.slice (some ⟨b, 0, none⟩) 1 1] w fun e w' => e = .returned (.int .u8 m) ∧ Drawn0 w w' := by
  rcases h with ⟨rfl, rfl⟩ | ⟨rfl, rfl⟩ | ⟨rfl, rfl⟩ | ⟨rfl, rfl⟩ | ⟨rfl, rfl⟩
  · go_enter Tryz.func89, Tryz.ntmps89
    go_wp2
    go_loopg [2, 7] 2 (fun kq v2 v7 wr => ((kq = 2 ∧ v2 = .int .u8 0 ∧ v7 = .int .i64 0) ∨ (kq = 1 ∧ v2 = .int .u8 1 ∧ v7 = .int .i64 1)) ∧ Drawn0 w wr)
    case atStart => exact ⟨.inl ⟨rfl, rfl, rfl⟩, by repeat (first | exact Drawn0.refl _ | apply Drawn0.step)⟩
    case round =>
      obtain ⟨hrel, ⟨m1, rfl⟩⟩ := hrel
      rcases hrel with ⟨rfl, rfl, rfl⟩ | ⟨rfl, rfl, rfl⟩
      · go_wp2
        go_roundg 1
        case measure => omega
        case rel => exact ⟨.inr ⟨rfl, rfl, rfl⟩, by repeat (first | exact Drawn0.refl _ | apply Drawn0.step)⟩
      · go_wp2
        go_ret
        exact ⟨rfl, by repeat (first | exact Drawn0.refl _ | apply Drawn0.step)⟩
  · go_enter Tryz.func89, Tryz.ntmps89
    go_wp2
    go_loopg [2, 7] 2 (fun kq v2 v7 wr => ((kq = 2 ∧ v2 = .int .u8 0 ∧ v7 = .int .i64 0) ∨ (kq = 1 ∧ v2 = .int .u8 2 ∧ v7 = .int .i64 1)) ∧ Drawn0 w wr)
    case atStart => exact ⟨.inl ⟨rfl, rfl, rfl⟩, by repeat (first | exact Drawn0.refl _ | apply Drawn0.step)⟩
    case round =>
      obtain ⟨hrel, ⟨m1, rfl⟩⟩ := hrel
      rcases hrel with ⟨rfl, rfl, rfl⟩ | ⟨rfl, rfl, rfl⟩
      · go_wp2
        go_roundg 1
        case measure => omega
        case rel => exact ⟨.inr ⟨rfl, rfl, rfl⟩, by repeat (first | exact Drawn0.refl _ | apply Drawn0.step)⟩
      · go_wp2
        go_ret
        exact ⟨rfl, by repeat (first | exact Drawn0.refl _ | apply Drawn0.step)⟩
  · go_enter Tryz.func89, Tryz.ntmps89
    go_wp2
    go_loopg [2, 7] 2 (fun kq v2 v7 wr => ((kq = 2 ∧ v2 = .int .u8 0 ∧ v7 = .int .i64 0) ∨ (kq = 1 ∧ v2 = .int .u8 4 ∧ v7 = .int .i64 1)) ∧ Drawn0 w wr)
    case atStart => exact ⟨.inl ⟨rfl, rfl, rfl⟩, by repeat (first | exact Drawn0.refl _ | apply Drawn0.step)⟩
    case round =>
      obtain ⟨hrel, ⟨m1, rfl⟩⟩ := hrel
      rcases hrel with ⟨rfl, rfl, rfl⟩ | ⟨rfl, rfl, rfl⟩
      · go_wp2
        go_roundg 1
        case measure => omega
        case rel => exact ⟨.inr ⟨rfl, rfl, rfl⟩, by repeat (first | exact Drawn0.refl _ | apply Drawn0.step)⟩
      · go_wp2
        go_ret
        exact ⟨rfl, by repeat (first | exact Drawn0.refl _ | apply Drawn0.step)⟩
  · go_enter Tryz.func89, Tryz.ntmps89
    go_wp2
    go_loopg [2, 7] 2 (fun kq v2 v7 wr => ((kq = 2 ∧ v2 = .int .u8 0 ∧ v7 = .int .i64 0) ∨ (kq = 1 ∧ v2 = .int .u8 8 ∧ v7 = .int .i64 1)) ∧ Drawn0 w wr)
    case atStart => exact ⟨.inl ⟨rfl, rfl, rfl⟩, by repeat (first | exact Drawn0.refl _ | apply Drawn0.step)⟩
    case round =>
      obtain ⟨hrel, ⟨m1, rfl⟩⟩ := hrel
      rcases hrel with ⟨rfl, rfl, rfl⟩ | ⟨rfl, rfl, rfl⟩
      · go_wp2
        go_roundg 1
        case measure => omega
        case rel => exact ⟨.inr ⟨rfl, rfl, rfl⟩, by repeat (first | exact Drawn0.refl _ | apply Drawn0.step)⟩
      · go_wp2
        go_ret
        exact ⟨rfl, by repeat (first | exact Drawn0.refl _ | apply Drawn0.step)⟩
  · go_enter Tryz.func89, Tryz.ntmps89
    go_wp2
    go_loopg [2, 7] 2 (fun kq v2 v7 wr => ((kq = 2 ∧ v2 = .int .u8 0 ∧ v7 = .int .i64 0) ∨ (kq = 1 ∧ v2 = .int .u8 16 ∧ v7 = .int .i64 1)) ∧ Drawn0 w wr)
    case atStart => exact ⟨.inl ⟨rfl, rfl, rfl⟩, by repeat (first | exact Drawn0.refl _ | apply Drawn0.step)⟩
    case round =>
      obtain ⟨hrel, ⟨m1, rfl⟩⟩ := hrel
      rcases hrel with ⟨rfl, rfl, rfl⟩ | ⟨rfl, rfl, rfl⟩
      · go_wp2
        go_roundg 1
        case measure => omega
        case rel => exact ⟨.inr ⟨rfl, rfl, rfl⟩, by repeat (first | exact Drawn0.refl _ | apply Drawn0.step)⟩
      · go_wp2
        go_ret
        exact ⟨rfl, by repeat (first | exact Drawn0.refl _ | apply Drawn0.step)⟩
end Go.Proofs.YtbpoapfkeinjnaaGreatDoor.Ld
namespace Go.Proofs.YtbpoapfkeinjnaaGreatDoor.Ld
open Go.RowKit Go.Proofs.YtbpoapfkeinjnaaGreatDoorW.PrintWords Go.Proofs.YtbpoapfkeinjnaaGreatDoorW.PrintLast Go.Proofs.YtbpoapfkeinjnaaGreatDoorW.PrintMore
set_option linter.unusedVariables false
set_option linter.unusedSimpArgs false
attribute [local go_sem] max2_int min2_int max_two min_two
theorem LifeAt.put0 {w : World} {g : Nat} {s : LifeS} (h : LifeAt w g s) (n : Int) : LifeAt (w.setCell ⟨g, 0, none⟩ (.int .i64 n)) g { s with state := n } := blk_put h 0 _ rfl
theorem LifeAt.put1 {w : World} {g : Nat} {s : LifeS} (h : LifeAt w g s) (n : Int) : LifeAt (w.setCell ⟨g, 1, none⟩ (.int .i64 n)) g { s with epoch := n } := blk_put h 1 _ rfl
theorem LifeAt.put2 {w : World} {g : Nat} {s : LifeS} (h : LifeAt w g s) (n : Int) : LifeAt (w.setCell ⟨g, 2, none⟩ (.int .i64 n)) g { s with missed := n } := blk_put h 2 _ rfl
def stepSt (s : LifeS) (a nx : Int) : LifeS := if s.state = a then { s with state := nx } else s
def stepErr (s : LifeS) (a : Int) : Int := if s.state = a then 0 else 8
set_option maxHeartbeats 8000000 in
set_option maxRecDepth 100000 in
theorem step_calls (g : Nat) (s : LifeS) (a m nx : Int) (hm : Mask a m) (h0 : 0 ≤ s.state ∧ s.state ≤ 7) (w : World) (ha : LifeAt w g s) :
    Calls Tryz.prog 88 #[.pointer (some ⟨g, 0, none⟩), .int .u8 m, .int .i64 nx] w fun e w' => e = .returned (.int .i64 (stepErr s a)) ∧ LifeAt w' g (stepSt s a nx) ∧ Touch g w w' := by
  have c0 := ha.c0
  have f0 := ha.frozen 0
  by_cases he : s.state = a
  · have E1 : Aside0 (stepErr s a = 0) := ⟨if_pos he⟩
    have E2 : Aside0 (stepSt s a nx = { s with state := nx }) := ⟨if_pos he⟩
    rw [he] at c0
    clear he h0
    rcases hm with ⟨rfl, rfl⟩ | ⟨rfl, rfl⟩ | ⟨rfl, rfl⟩ | ⟨rfl, rfl⟩ | ⟨rfl, rfl⟩
    all_goals
      go_enter Tryz.func88, Tryz.ntmps88
      go_wp2
      go_ret
      exact ⟨by rw [E1.out]; rfl, by rw [E2.out]; exact ha.put0 nx, (Touch.refl g w).set _ _⟩
  · have E1 : Aside0 (stepErr s a = 8) := ⟨if_neg he⟩
    have E2 : Aside0 (stepSt s a nx = s) := ⟨if_neg he⟩
    obtain ⟨k, hk⟩ : ∃ k, s.state = k := ⟨_, rfl⟩
    rw [hk] at c0 he h0
    have hc : k = 0 ∨ k = 1 ∨ k = 2 ∨ k = 3 ∨ k = 4 ∨ k = 5 ∨ k = 6 ∨ k = 7 := by omega
    clear hk h0
    rcases hm with ⟨rfl, rfl⟩ | ⟨rfl, rfl⟩ | ⟨rfl, rfl⟩ | ⟨rfl, rfl⟩ | ⟨rfl, rfl⟩ <;> rcases hc with rfl | rfl | rfl | rfl | rfl | rfl | rfl | rfl
    all_goals first
      | (exfalso; exact he rfl)
      | (clear he; go_enter Tryz.func88, Tryz.ntmps88; go_wp2; go_ret; exact ⟨by rw [E1.out]; rfl, by rw [E2.out]; exact ha, Touch.refl g w⟩)
theorem lit_cell (w : World) (a : Int) : (w.alloc (.cells #[.int .i64 a] 3)).cell? ⟨w.heap.size, 0, none⟩ = some (.int .i64 a) := (blk_cell (blk_new w _) 0).trans rfl
theorem step_r {g : Nat} {s : LifeS} {er : Int} (a m nx : Int) (hm : Mask a m) (h0 : 0 ≤ s.state ∧ s.state ≤ 7) (he : stepErr s a = er) (w : World) (ha : LifeAt w g s) :
    Calls Tryz.prog 88 #[.pointer (some ⟨g, 0, none⟩), .int .u8 m, .int .i64 nx] w fun e w' => e = .returned (.int .i64 er) ∧ LifeAt w' g (stepSt s a nx) ∧ Touch g w w' := by
  subst he; exact step_calls g s a m nx hm h0 w ha

set_option maxHeartbeats 8000000 in
set_option maxRecDepth 100000 in
theorem Want_calls (g : Nat) (s : LifeS) (h0 : 0 ≤ s.state ∧ s.state ≤ 7) (w : World) (ha : LifeAt w g s) :
    Calls Tryz.prog 75 #[.pointer (some ⟨g, 0, none⟩)] w fun e w' => e = .returned (.int .i64 (stepErr s 0)) ∧ LifeAt w' g (stepSt s 0 1) ∧ Touch g w w' := by
  have hmask : Mask 0 1 := by unfold Mask; omega
  obtain ⟨er, he⟩ : ∃ er, stepErr s 0 = er := ⟨_, rfl⟩
  have ER := Aside0.mk he
  rw [he]
  clear he
  go_enter Tryz.func75, Tryz.ntmps75
  go_wp2_with (first
      | (go_at_call 89; (with_reducible refine (of1_calls 0 1 hmask _ _ ?hc).mono ?_); (case hc => exact lit_cell _ _); rintro e w1 ⟨rfl, hd⟩; have D1 := Aside0.mk (below_step (below_alloc (Below.refl _ w) _) hd.below); clear hd)
      | (go_at_call 88; (with_reducible refine (step_r 0 1 1 hmask h0 ER.out _ ?ha).mono ?_); (case ha => exact ha.below D1.out); rintro e w2 ⟨rfl, hA, hT⟩; have A2 := Aside0.mk hA; have T2 := Aside0.mk ((Touch.of_below D1.out g).trans hT); clear hA hT))
  go_ret
  exact ⟨rfl, A2.out, T2.out⟩

set_option maxHeartbeats 8000000 in
set_option maxRecDepth 100000 in
theorem Wake_calls (g : Nat) (s : LifeS) (h0 : 0 ≤ s.state ∧ s.state ≤ 7) (w : World) (ha : LifeAt w g s) :
    Calls Tryz.prog 148 #[.pointer (some ⟨g, 0, none⟩)] w fun e w' => e = .returned (.int .i64 (stepErr s 3)) ∧ LifeAt w' g (stepSt s 3 1) ∧ Touch g w w' := by
  have hmask : Mask 3 8 := by unfold Mask; omega
  obtain ⟨er, he⟩ : ∃ er, stepErr s 3 = er := ⟨_, rfl⟩
  have ER := Aside0.mk he
  rw [he]
  clear he
  go_enter Tryz.func148, Tryz.ntmps148
  go_wp2_with (first
      | (go_at_call 89; (with_reducible refine (of1_calls 3 8 hmask _ _ ?hc).mono ?_); (case hc => exact lit_cell _ _); rintro e w1 ⟨rfl, hd⟩; have D1 := Aside0.mk (below_step (below_alloc (Below.refl _ w) _) hd.below); clear hd)
      | (go_at_call 88; (with_reducible refine (step_r 3 8 1 hmask h0 ER.out _ ?ha).mono ?_); (case ha => exact ha.below D1.out); rintro e w2 ⟨rfl, hA, hT⟩; have A2 := Aside0.mk hA; have T2 := Aside0.mk ((Touch.of_below D1.out g).trans hT); clear hA hT))
  go_ret
  exact ⟨rfl, A2.out, T2.out⟩

set_option maxHeartbeats 8000000 in
set_option maxRecDepth 100000 in
theorem Rested_calls (g : Nat) (s : LifeS) (h0 : 0 ≤ s.state ∧ s.state ≤ 7) (w : World) (ha : LifeAt w g s) :
    Calls Tryz.prog 49 #[.pointer (some ⟨g, 0, none⟩)] w fun e w' => e = .returned (.int .i64 (stepErr s 4)) ∧ LifeAt w' g (stepSt s 4 1) ∧ Touch g w w' := by
  have hmask : Mask 4 16 := by unfold Mask; omega
  obtain ⟨er, he⟩ : ∃ er, stepErr s 4 = er := ⟨_, rfl⟩
  have ER := Aside0.mk he
  rw [he]
  clear he
  go_enter Tryz.func49, Tryz.ntmps49
  go_wp2_with (first
      | (go_at_call 89; (with_reducible refine (of1_calls 4 16 hmask _ _ ?hc).mono ?_); (case hc => exact lit_cell _ _); rintro e w1 ⟨rfl, hd⟩; have D1 := Aside0.mk (below_step (below_alloc (Below.refl _ w) _) hd.below); clear hd)
      | (go_at_call 88; (with_reducible refine (step_r 4 16 1 hmask h0 ER.out _ ?ha).mono ?_); (case ha => exact ha.below D1.out); rintro e w2 ⟨rfl, hA, hT⟩; have A2 := Aside0.mk hA; have T2 := Aside0.mk ((Touch.of_below D1.out g).trans hT); clear hA hT))
  go_ret
  exact ⟨rfl, A2.out, T2.out⟩

set_option maxHeartbeats 8000000 in
set_option maxRecDepth 100000 in
theorem Again_calls (g : Nat) (s : LifeS) (h0 : 0 ≤ s.state ∧ s.state ≤ 7) (w : World) (ha : LifeAt w g s) :
    Calls Tryz.prog 116 #[.pointer (some ⟨g, 0, none⟩)] w fun e w' => e = .returned (.int .i64 (stepErr s 2)) ∧ LifeAt w' g (stepSt s 2 1) ∧ Touch g w w' := by
  have hmask : Mask 2 4 := by unfold Mask; omega
  obtain ⟨er, he⟩ : ∃ er, stepErr s 2 = er := ⟨_, rfl⟩
  have ER := Aside0.mk he
  rw [he]
  clear he
  go_enter Tryz.func116, Tryz.ntmps116
  go_wp2_with (first
      | (go_at_call 89; (with_reducible refine (of1_calls 2 4 hmask _ _ ?hc).mono ?_); (case hc => exact lit_cell _ _); rintro e w1 ⟨rfl, hd⟩; have D1 := Aside0.mk (below_step (below_alloc (Below.refl _ w) _) hd.below); clear hd)
      | (go_at_call 88; (with_reducible refine (step_r 2 4 1 hmask h0 ER.out _ ?ha).mono ?_); (case ha => exact ha.below D1.out); rintro e w2 ⟨rfl, hA, hT⟩; have A2 := Aside0.mk hA; have T2 := Aside0.mk ((Touch.of_below D1.out g).trans hT); clear hA hT))
  go_ret
  exact ⟨rfl, A2.out, T2.out⟩

set_option maxHeartbeats 8000000 in
set_option maxRecDepth 100000 in
theorem Wait_calls (g : Nat) (s : LifeS) (h0 : 0 ≤ s.state ∧ s.state ≤ 7) (w : World) (ha : LifeAt w g s) :
    Calls Tryz.prog 117 #[.pointer (some ⟨g, 0, none⟩)] w fun e w' => e = .returned (.int .i64 (stepErr s 2)) ∧ LifeAt w' g (stepSt s 2 3) ∧ Touch g w w' := by
  have hmask : Mask 2 4 := by unfold Mask; omega
  obtain ⟨er, he⟩ : ∃ er, stepErr s 2 = er := ⟨_, rfl⟩
  have ER := Aside0.mk he
  rw [he]
  clear he
  go_enter Tryz.func117, Tryz.ntmps117
  go_wp2_with (first
      | (go_at_call 89; (with_reducible refine (of1_calls 2 4 hmask _ _ ?hc).mono ?_); (case hc => exact lit_cell _ _); rintro e w1 ⟨rfl, hd⟩; have D1 := Aside0.mk (below_step (below_alloc (Below.refl _ w) _) hd.below); clear hd)
      | (go_at_call 88; (with_reducible refine (step_r 2 4 3 hmask h0 ER.out _ ?ha).mono ?_); (case ha => exact ha.below D1.out); rintro e w2 ⟨rfl, hA, hT⟩; have A2 := Aside0.mk hA; have T2 := Aside0.mk ((Touch.of_below D1.out g).trans hT); clear hA hT))
  go_ret
  exact ⟨rfl, A2.out, T2.out⟩

set_option maxHeartbeats 8000000 in
set_option maxRecDepth 100000 in
theorem End_calls (g : Nat) (s : LifeS) (h0 : 0 ≤ s.state ∧ s.state ≤ 7) (w : World) (ha : LifeAt w g s) :
    Calls Tryz.prog 62 #[.pointer (some ⟨g, 0, none⟩)] w fun e w' => e = .returned (.int .i64 (stepErr s 2)) ∧ LifeAt w' g (stepSt s 2 5) ∧ Touch g w w' := by
  have hmask : Mask 2 4 := by unfold Mask; omega
  obtain ⟨er, he⟩ : ∃ er, stepErr s 2 = er := ⟨_, rfl⟩
  have ER := Aside0.mk he
  rw [he]
  clear he
  go_enter Tryz.func62, Tryz.ntmps62
  go_wp2_with (first
      | (go_at_call 89; (with_reducible refine (of1_calls 2 4 hmask _ _ ?hc).mono ?_); (case hc => exact lit_cell _ _); rintro e w1 ⟨rfl, hd⟩; have D1 := Aside0.mk (below_step (below_alloc (Below.refl _ w) _) hd.below); clear hd)
      | (go_at_call 88; (with_reducible refine (step_r 2 4 5 hmask h0 ER.out _ ?ha).mono ?_); (case ha => exact ha.below D1.out); rintro e w2 ⟨rfl, hA, hT⟩; have A2 := Aside0.mk hA; have T2 := Aside0.mk ((Touch.of_below D1.out g).trans hT); clear hA hT))
  go_ret
  exact ⟨rfl, A2.out, T2.out⟩

end Go.Proofs.YtbpoapfkeinjnaaGreatDoor.Ld
namespace Go.Proofs.YtbpoapfkeinjnaaGreatDoor.Ld
open Go.RowKit Go.Proofs.YtbpoapfkeinjnaaGreatDoorW.PrintWords Go.Proofs.YtbpoapfkeinjnaaGreatDoorW.PrintLast Go.Proofs.YtbpoapfkeinjnaaGreatDoorW.PrintMore
set_option linter.unusedVariables false
set_option linter.unusedSimpArgs false
attribute [local go_sem] max2_int min2_int max_two min_two
def startSt (s : LifeS) : LifeS := if s.state = 1 then { s with state := 2, epoch := s.epoch + 1 } else s
def missSt (s : LifeS) : LifeS := if s.state = 2 then { s with state := if s.tries ≤ s.missed + 1 then 6 else 4, missed := s.missed + 1 } else s
def lifeNew (tries preempts : Int) : LifeS := ⟨0, 0, 0, 0, if tries < 1 then 1 else tries, if preempts < 0 then 0 else preempts⟩

set_option maxHeartbeats 8000000 in
set_option maxRecDepth 100000 in
theorem LNew_calls (a b : Int) (w : World) : Calls Tryz.prog 40 #[.int .i64 a, .int .i64 b] w fun e w' => e = .returned (.pointer (some ⟨w.heap.size, 0, none⟩)) ∧ LifeAt w' w.heap.size (lifeNew a b) ∧ Below w.heap.size w w' := by
  by_cases h1 : a < 1 <;> by_cases h2 : b < 0
  all_goals
    have e1 : Aside0 (lifeNew a b = ⟨0, 0, 0, 0, if a < 1 then 1 else a, if b < 0 then 0 else b⟩) := ⟨rfl⟩
    first | rw [if_pos h1] at e1 | rw [if_neg h1] at e1
    first | rw [if_pos h2] at e1 | rw [if_neg h2] at e1
    go_enter Tryz.func40, Tryz.ntmps40
    go_wp2
    go_ret
    exact ⟨rfl, by rw [e1.out]; exact heap_alloc_new w _, by repeat (first | exact Below.refl _ _ | apply below_alloc | apply below_drew1 | apply pw_below_drewN)⟩

set_option maxHeartbeats 8000000 in
set_option maxRecDepth 100000 in
theorem LStart_calls (g : Nat) (s : LifeS) (h0 : 0 ≤ s.state ∧ s.state ≤ 7) (hep : 0 ≤ s.epoch ∧ s.epoch ≤ 1000000000) (w : World) (ha : LifeAt w g s) :
    Calls Tryz.prog 108 #[.pointer (some ⟨g, 0, none⟩)] w fun e w' => e = .returned (.int .i64 (stepErr s 1)) ∧ LifeAt w' g (startSt s) ∧ Touch g w w' := by
  have hmask : Mask 1 2 := by unfold Mask; omega
  have HA := Aside0.mk ha
  by_cases he : s.state = 1
  · have ER : Aside0 (stepErr s 1 = 0) := ⟨if_pos he⟩
    have ES : Aside0 (stepSt s 1 2 = { s with state := 2 }) := ⟨if_pos he⟩
    have ET : Aside0 (startSt s = { s with state := 2, epoch := s.epoch + 1 }) := ⟨if_pos he⟩
    rw [ER.out, ET.out]
    clear he ha
    go_enter Tryz.func108, Tryz.ntmps108
    go_wp2_with (first
        | (go_at_call 89; (with_reducible refine (of1_calls 1 2 hmask _ _ ?hc).mono ?_); (case hc => exact lit_cell _ _); rintro e w1 ⟨rfl, hd⟩; have D1 := Aside0.mk (below_step (below_alloc (Below.refl _ w) _) hd.below); clear hd)
        | (go_at_call 88; (with_reducible refine (step_r 1 2 2 hmask h0 ER.out _ ?ha).mono ?_); (case ha => exact HA.out.below D1.out); rintro e w2 ⟨rfl, hA, hT⟩; have A2 := Aside0.mk hA; have T2 := Aside0.mk ((Touch.of_below D1.out g).trans hT); have l1 := hA.c1; rw [ES.out] at l1; have f1 := hA.frozen 1; clear hA hT))
    go_ret
    refine ⟨rfl, ?_, T2.out.set _ _⟩
    have h2 := A2.out
    rw [ES.out] at h2
    exact h2.put1 _
  · have ER : Aside0 (stepErr s 1 = 8) := ⟨if_neg he⟩
    have ES : Aside0 (stepSt s 1 2 = s) := ⟨if_neg he⟩
    have ET : Aside0 (startSt s = s) := ⟨if_neg he⟩
    rw [ER.out, ET.out]
    clear he ha
    go_enter Tryz.func108, Tryz.ntmps108
    go_wp2_with (first
        | (go_at_call 89; (with_reducible refine (of1_calls 1 2 hmask _ _ ?hc).mono ?_); (case hc => exact lit_cell _ _); rintro e w1 ⟨rfl, hd⟩; have D1 := Aside0.mk (below_step (below_alloc (Below.refl _ w) _) hd.below); clear hd)
        | (go_at_call 88; (with_reducible refine (step_r 1 2 2 hmask h0 ER.out _ ?ha).mono ?_); (case ha => exact HA.out.below D1.out); rintro e w2 ⟨rfl, hA, hT⟩; have A2 := Aside0.mk hA; have T2 := Aside0.mk ((Touch.of_below D1.out g).trans hT);  clear hA hT))
    go_ret
    refine ⟨rfl, ?_, T2.out⟩
    have h2 := A2.out
    rw [ES.out] at h2
    exact h2

set_option maxHeartbeats 8000000 in
set_option maxRecDepth 100000 in
theorem LMiss_calls (g : Nat) (s : LifeS) (hst : s.state = 2) (hms : 0 ≤ s.missed ∧ s.missed ≤ 1000000000) (w : World) (ha : LifeAt w g s) :
    Calls Tryz.prog 84 #[.pointer (some ⟨g, 0, none⟩)] w fun e w' => e = .returned (.int .i64 0) ∧ LifeAt w' g (missSt s) ∧ Touch g w w' := by
  have hmask : Mask 2 4 := by unfold Mask; omega
  have h0 : 0 ≤ s.state ∧ s.state ≤ 7 := by omega
  have c2 := ha.c2
  have c4 := ha.c4
  have ER : Aside0 (stepErr s 2 = 0) := ⟨if_pos hst⟩
  have HST := Aside0.mk hst
  clear hst
  by_cases hc : s.tries ≤ s.missed + 1
  · have ES : Aside0 (stepSt s 2 6 = { s with state := 6 }) := ⟨if_pos HST.out⟩
    have ET : Aside0 (missSt s = { s with state := 6, missed := s.missed + 1 }) := ⟨by unfold missSt; rw [if_pos HST.out, if_pos hc]⟩
    · rw [ET.out]
      go_enter Tryz.func84, Tryz.ntmps84
      go_wp2
      go_quiet (fail)
      have HA := Aside0.mk (show LifeAt (w.drewN nq) g s from ha)
      obtain ⟨wq, hwq⟩ : ∃ q, q = w.drewN nq := ⟨_, rfl⟩
      have TQ := Aside0.mk (show Touch g w wq by rw [hwq]; exact (Touch.refl g w).drewN _)
      rw [← hwq] at HA ⊢
      clear hwq
      go_wp2_with (first
        | (go_at_call 89; (with_reducible refine (of1_calls 2 4 hmask _ _ ?hc).mono ?_); (case hc => exact lit_cell _ _); rintro e w1 ⟨rfl, hd⟩; have D1 := Aside0.mk (below_step (below_alloc (Below.refl _ wq) _) hd.below); clear hd)
        | (go_at_call 88; (with_reducible refine (step_r 2 4 6 hmask h0 ER.out _ ?ha).mono ?_); (case ha => exact HA.out.below D1.out); rintro e w2 ⟨rfl, hA, hT⟩; have A2 := Aside0.mk hA; have T2 := Aside0.mk ((Touch.of_below D1.out g).trans hT); have l2 := hA.c2; rw [ES.out] at l2; have f2 := hA.frozen 2; clear hA hT))
      go_ret
      refine ⟨rfl, ?_, (TQ.out.trans T2.out).set _ _⟩
      have h2 := A2.out
      rw [ES.out] at h2
      exact h2.put2 _
  · have ES : Aside0 (stepSt s 2 4 = { s with state := 4 }) := ⟨if_pos HST.out⟩
    have ET : Aside0 (missSt s = { s with state := 4, missed := s.missed + 1 }) := ⟨by unfold missSt; rw [if_pos HST.out, if_neg hc]⟩
    · rw [ET.out]
      go_enter Tryz.func84, Tryz.ntmps84
      go_wp2
      go_quiet (fail)
      have HA := Aside0.mk (show LifeAt (w.drewN nq) g s from ha)
      obtain ⟨wq, hwq⟩ : ∃ q, q = w.drewN nq := ⟨_, rfl⟩
      have TQ := Aside0.mk (show Touch g w wq by rw [hwq]; exact (Touch.refl g w).drewN _)
      rw [← hwq] at HA ⊢
      clear hwq
      go_wp2_with (first
        | (go_at_call 89; (with_reducible refine (of1_calls 2 4 hmask _ _ ?hc).mono ?_); (case hc => exact lit_cell _ _); rintro e w1 ⟨rfl, hd⟩; have D1 := Aside0.mk (below_step (below_alloc (Below.refl _ wq) _) hd.below); clear hd)
        | (go_at_call 88; (with_reducible refine (step_r 2 4 4 hmask h0 ER.out _ ?ha).mono ?_); (case ha => exact HA.out.below D1.out); rintro e w2 ⟨rfl, hA, hT⟩; have A2 := Aside0.mk hA; have T2 := Aside0.mk ((Touch.of_below D1.out g).trans hT); have l2 := hA.c2; rw [ES.out] at l2; have f2 := hA.frozen 2; clear hA hT))
      go_ret
      refine ⟨rfl, ?_, (TQ.out.trans T2.out).set _ _⟩
      have h2 := A2.out
      rw [ES.out] at h2
      exact h2.put2 _
end Go.Proofs.YtbpoapfkeinjnaaGreatDoor.Ld
namespace Go.Proofs.YtbpoapfkeinjnaaGreatDoor.Ld
open Go.RowKit Go.Proofs.YtbpoapfkeinjnaaGreatDoorW.PrintWords Go.Proofs.YtbpoapfkeinjnaaGreatDoorW.PrintLast Go.Proofs.YtbpoapfkeinjnaaGreatDoorW.PrintMore
set_option linter.unusedVariables false
set_option linter.unusedSimpArgs false
attribute [local go_sem] max2_int min2_int max_two min_two
theorem drawnT {a b c : World} (h : Drawn0 a b) (k : Drawn0 b c) : Drawn0 a c := by
  obtain ⟨m, rfl⟩ := k; exact h.step m

def fndN {α : Type} (q : α → Bool) (p : Nat → α) (n : Nat) : Int := match (List.range n).find? (fun i => q (p i)) with | some i => (i : Int) | none => -1
theorem fndN_none {α : Type} {q : α → Bool} {p : Nat → α} {n : Nat} (h : ∀ i, i < n → q (p i) = false) : fndN q p n = -1 := by
  unfold fndN
  have : (List.range n).find? (fun i => q (p i)) = none := by
    rw [List.find?_eq_none]; intro i hi; rw [h i (List.mem_range.1 hi)]; simp
  rw [this]
theorem fndN_some {α : Type} {q : α → Bool} {p : Nat → α} {n i : Nat} (h1 : i < n) (h2 : q (p i) = true) (h3 : ∀ j, j < i → q (p j) = false) : fndN q p n = (i : Int) := by
  unfold fndN
  have : (List.range n).find? (fun i => q (p i)) = some i := by
    rw [List.find?_range_eq_some]
    exact ⟨h2, List.mem_range.2 h1, fun j hj => by rw [h3 j hj]; rfl⟩
  rw [this]
theorem fndN_cases {α : Type} (q : α → Bool) (p : Nat → α) (n : Nat) : (fndN q p n = -1 ∧ ∀ i, i < n → q (p i) = false) ∨ ∃ i : Nat, fndN q p n = (i : Int) ∧ i < n ∧ q (p i) = true ∧ ∀ j, j < i → q (p j) = false := by
  cases h : (List.range n).find? (fun i => q (p i)) with
  | none =>
    left
    refine ⟨by unfold fndN; rw [h], fun i hi => ?_⟩
    have := List.find?_eq_none.1 h i (List.mem_range.2 hi)
    simpa using this
  | some i =>
    right
    rw [List.find?_range_eq_some] at h
    exact ⟨i, by rw [fndN_some (List.mem_range.1 h.2.1) h.1 (fun j hj => by simpa using h.2.2 j hj)], List.mem_range.1 h.2.1, h.1, fun j hj => by simpa using h.2.2 j hj⟩

structure Mb where
  id : Int
  weight : Int
  credit : Int
def mb0 : Mb := ⟨0, 0, 0⟩
def MbAt (w : World) (g : Nat) (m : Mb) : Prop := w.heap[g]? = some (.cells #[.int .i64 m.id, .int .i64 m.weight, .int .i64 m.credit] 166 (0, 0))
theorem MbAt.c0 {w : World} {g : Nat} {m : Mb} (h : MbAt w g m) : w.cell? ⟨g, 0, none⟩ = some (.int .i64 m.id) := (blk_cell h 0).trans rfl
theorem MbAt.c1 {w : World} {g : Nat} {m : Mb} (h : MbAt w g m) : w.cell? ⟨g, 1, none⟩ = some (.int .i64 m.weight) := (blk_cell h 1).trans rfl
theorem MbAt.c2 {w : World} {g : Nat} {m : Mb} (h : MbAt w g m) : w.cell? ⟨g, 2, none⟩ = some (.int .i64 m.credit) := (blk_cell h 2).trans rfl
theorem MbAt.below {w w1 : World} {g : Nat} {m : Mb} (h : MbAt w g m) (hb : Below w.heap.size w w1) : MbAt w1 g m := blk_below h hb
def ptrV (m : Nat) : Value := .pointer (some ⟨m, 0, none⟩)
def nth (ms : List Nat) (i : Nat) : Nat := rdOf 0 ms (i : Int)
def mbs (l : List Mb) (i : Nat) : Mb := l.getD i mb0
structure Row (w : World) (A : Option Addr) (ms : List Nat) (l : List Mb) : Prop where
  row : ReadsOf ptrV 0 w A ms.length ms
  len : ms.length = l.length
  dup : ms.Nodup
  all : ∀ i, i < l.length → MbAt w (nth ms i) (mbs l i)
theorem Row.below {w w1 : World} {A : Option Addr} {ms : List Nat} {l : List Mb} (h : Row w A ms l) (hb : Below w.heap.size w w1) : Row w1 A ms l := ⟨h.row.below hb, h.len, h.dup, fun i hi => (h.all i hi).below hb⟩
theorem Row.at_ {w : World} {A : Option Addr} {ms : List Nat} {l : List Mb} (h : Row w A ms l) (i : Nat) (hi : i < l.length) : ∃ ad, A = some ad ∧ w.cell? (ad.add i) = some (.pointer (some ⟨nth ms i, 0, none⟩)) := by
  obtain ⟨ad, e, hc⟩ := h.row.at_ (i : Int) (by omega) (by have := h.len; omega)
  rw [Int.toNat_natCast] at hc
  exact ⟨ad, e, hc⟩
def isId (id : Int) (m : Mb) : Bool := m.id == id
def placeI (l : List Mb) (id : Int) : Int := fndN (isId id) (mbs l) l.length

set_option maxHeartbeats 8000000 in
set_option maxRecDepth 100000 in
theorem placef_calls (m : Mb) (g b : Nat) (id : Int) (w : World) (ha : MbAt w g m) (hc : w.cell? ⟨b, 0, none⟩ = some (.int .i64 id)) : Calls Tryz.prog 153 #[.pointer (some ⟨g, 0, none⟩), .pointer (some ⟨b, 0, none⟩)] w fun e w' => e = .returned (.bool (isId id m)) ∧ Drawn0 w w' := by
  have c0 := ha.c0
  go_enter Tryz.func153, Tryz.ntmps153
  go_wp2
  go_quiet (fail)
  go_wp2
  go_ret
  exact ⟨rfl, by repeat (first | exact Drawn0.refl _ | apply Drawn0.step)⟩

set_option maxHeartbeats 8000000 in
set_option maxRecDepth 100000 in
theorem IndexMb_calls (A : Option Addr) (c : Nat) (ms : List Nat) (l : List Mb) (b : Nat) (id : Int) (w : World) (hr : Row w A ms l) (hn : l.length ≤ 1000) (hc : w.cell? ⟨b, 0, none⟩ = some (.int .i64 id)) :
    Calls Tryz.prog 152 #[.slice A l.length c, .func (.func 153) #[] #[.pointer (some ⟨b, 0, none⟩)]] w fun e w' => e = .returned (.int .i64 (placeI l id)) ∧ Drawn0 w w' := by
  have HR := Aside0.mk hr
  clear hr
  go_enter Tryz.func152, Tryz.ntmps152
  go_wp2
  go_loopg [8] (l.length + 1) (fun kq v wr => ∃ i : Nat, v = .int .i64 (i : Int) ∧ Aside0 (kq + i = l.length + 1 ∧ i ≤ l.length ∧ (∀ j, j < i → isId id (mbs l j) = false) ∧ Drawn0 w wr))
  case atStart => exact ⟨0, rfl, ⟨by omega, by omega, fun j hj => by omega, Drawn0.refl _⟩⟩
  case round =>
    obtain ⟨i, rfl, hA⟩ := hrel
    obtain ⟨hk, hi, hall, hd⟩ := hA.out
    have HA := Aside0.mk hall
    have HD := Aside0.mk hd
    have HRW := Aside0.mk (HR.out.below hd.below)
    have HC := Aside0.mk (pw_cell_below hd.below hc)
    clear hA hall hd
    by_cases hlt : i < l.length
    · obtain ⟨ad, rfl, d0⟩ := HRW.out.at_ i hlt
      have HM := Aside0.mk (HRW.out.all i hlt)
      have p1 : (0 ≤ (i : Int)) = True := eq_true (by omega)
      have p2 : ((i : Int) < (l.length : Int)) = True := eq_true (by omega)
      obtain ⟨m, hm⟩ : ∃ m, mbs l i = m := ⟨_, rfl⟩
      rw [hm] at HM
      have HP := Aside0.mk hm
      clear hm
      cases hq : isId id m
      all_goals
        go_wp2_with (go_at_call 153; (with_reducible refine (placef_calls m _ b id _ ?ha ?hc).mono ?_); (case ha => exact HM.out); (case hc => exact HC.out); rintro e w2 ⟨rfl, hd2⟩; simp only [hq]; have D2 := Aside0.mk (drawnT HD.out hd2); clear hd2)
      · go_roundg (gk - 1)
        case measure => omega
        case rel =>
          refine ⟨i + 1, rfl, ⟨by omega, by omega, fun j hj => ?_, D2.out⟩⟩
          rcases Nat.lt_succ_iff_lt_or_eq.1 hj with h | rfl
          · exact HA.out j h
          · rw [HP.out]; exact hq
      · go_ret
        exact ⟨by unfold placeI; rw [fndN_some hlt (by rw [HP.out]; exact hq) HA.out]; rfl, D2.out⟩
    · have hf := Aside0.mk (fndN_none (q := isId id) (p := mbs l) (n := l.length) (fun j hj => HA.out j (by omega)))
      go_wp2
      go_ret
      exact ⟨by unfold placeI; rw [hf.out]; rfl, HD.out⟩
end Go.Proofs.YtbpoapfkeinjnaaGreatDoor.Ld
namespace Go.Proofs.YtbpoapfkeinjnaaGreatDoor.Ld
open Go.RowKit Go.Proofs.YtbpoapfkeinjnaaGreatDoorW.PrintWords Go.Proofs.YtbpoapfkeinjnaaGreatDoorW.PrintLast Go.Proofs.YtbpoapfkeinjnaaGreatDoorW.PrintMore
set_option linter.unusedVariables false
set_option linter.unusedSimpArgs false
attribute [local go_sem] max2_int min2_int max_two min_two
structure TurnsIs (w : World) (base g : Nat) (q : Int) (A : Option Addr) (c : Nat) (ms : List Nat) (l : List Mb) (at_ : Int) : Prop where
  blk : w.heap[g]? = some (.cells #[.int .i64 q, .slice A l.length c, .int .i64 at_] 146 (0, 0))
  row : Row w A ms l
  own : w.ownsRow base 164 1 (.slice A l.length c) l.length (encs ptrV ms)
theorem TurnsIs.below {w w1 : World} {base g : Nat} {q at_ : Int} {A : Option Addr} {c : Nat} {ms : List Nat} {l : List Mb} (h : TurnsIs w base g q A c ms l at_) (hb : Below w.heap.size w w1) : TurnsIs w1 base g q A c ms l at_ := ⟨blk_below h.blk hb, h.row.below hb, pw_own_below h.own hb⟩
theorem TurnsIs.c0 {w : World} {base g : Nat} {q at_ : Int} {A : Option Addr} {c : Nat} {ms : List Nat} {l : List Mb} (h : TurnsIs w base g q A c ms l at_) : w.cell? ⟨g, 0, none⟩ = some (.int .i64 q) := (blk_cell h.blk 0).trans rfl
theorem TurnsIs.c1 {w : World} {base g : Nat} {q at_ : Int} {A : Option Addr} {c : Nat} {ms : List Nat} {l : List Mb} (h : TurnsIs w base g q A c ms l at_) : w.cell? ⟨g, 1, none⟩ = some (.slice A l.length c) := (blk_cell h.blk 1).trans rfl
theorem TurnsIs.c2 {w : World} {base g : Nat} {q at_ : Int} {A : Option Addr} {c : Nat} {ms : List Nat} {l : List Mb} (h : TurnsIs w base g q A c ms l at_) : w.cell? ⟨g, 2, none⟩ = some (.int .i64 at_) := (blk_cell h.blk 2).trans rfl

set_option maxHeartbeats 8000000 in
set_option maxRecDepth 100000 in
theorem place_calls (base g : Nat) (q : Int) (A : Option Addr) (c : Nat) (ms : List Nat) (l : List Mb) (at_ id : Int) (w : World) (ha : TurnsIs w base g q A c ms l at_) (hn : l.length ≤ 1000) :
    Calls Tryz.prog 123 #[.pointer (some ⟨g, 0, none⟩), .int .i64 id] w fun e w' => e = .returned (.int .i64 (placeI l id)) ∧ Below w.heap.size w w' := by
  have hb := below_alloc (Below.refl _ w) (.cells #[.int .i64 id] 3)
  have c1 := (ha.below hb).c1
  have HR := Aside0.mk (ha.below hb).row
  go_enter Tryz.func123, Tryz.ntmps123
  go_wp2_with (go_at_call 152; (with_reducible refine (IndexMb_calls A c ms l _ id _ ?hr hn ?hc).mono ?_); (case hr => exact HR.out); (case hc => exact lit_cell _ _); rintro e w2 ⟨rfl, hd⟩; have D2 := Aside0.mk (below_step (below_alloc (Below.refl _ w) _) hd.below); clear hd)
  go_ret
  exact ⟨rfl, D2.out⟩

set_option maxHeartbeats 8000000 in
set_option maxRecDepth 100000 in
theorem gain_calls (base g m : Nat) (q : Int) (A : Option Addr) (c : Nat) (ms : List Nat) (l : List Mb) (at_ : Int) (x : Mb) (w : World) (ha : TurnsIs w base g q A c ms l at_) (hm : MbAt w m x) (h0 : 0 ≤ q ∧ q ≤ 1048576) (h1 : 0 ≤ x.weight ∧ x.weight ≤ 100) :
    Calls Tryz.prog 106 #[.pointer (some ⟨g, 0, none⟩), .pointer (some ⟨m, 0, none⟩)] w fun e w' => e = .returned (.int .i64 (q * x.weight)) ∧ Drawn0 w w' := by
  have c0 := ha.c0
  have c1 := hm.c1
  have hb : 0 ≤ q * x.weight ∧ q * x.weight ≤ 104857600 := ⟨Int.mul_nonneg h0.1 h1.1, by
    have := Int.mul_le_mul h0.2 h1.2 h1.1 (by omega)
    omega⟩
  have hw : IntKind.i64.wrap (q * x.weight) = q * x.weight := IntWalk.i64_in _ (by omega)
  have hw2 : wrap64 (q * x.weight) = q * x.weight := by unfold wrap64; omega
  clear h0 h1
  go_enter Tryz.func106, Tryz.ntmps106
  go_wp2
  go_quiet (fail)
  go_wp2
  go_ret
  exact ⟨rfl, by repeat (first | exact Drawn0.refl _ | apply Drawn0.step)⟩

def cutQ (n : Int) : Int := if 1048576 < (if n < 1 then 1 else n) then 1048576 else if n < 1 then 1 else n
set_option maxHeartbeats 8000000 in
set_option maxRecDepth 100000 in
theorem TNew_calls (base : Nat) (n : Int) (w : World) : Calls Tryz.prog 38 #[.int .i64 n] w fun e w' => e = .returned (.pointer (some ⟨w.heap.size, 0, none⟩)) ∧ TurnsIs w' base w.heap.size (cutQ n) none 0 [] [] 0 ∧ Below w.heap.size w w' := by
  have hrow : ∀ W : World, Row W none [] [] := fun W => ⟨ReadsOf.nil _ _ _, rfl, List.nodup_nil, fun i hi => by simp at hi⟩
  have HROW := Aside0.mk hrow
  clear hrow
  by_cases h1 : n < 1
  · have e1 : Aside0 (cutQ n = 1) := ⟨by unfold cutQ; simp only [if_pos h1]; rfl⟩
    rw [e1.out]
    go_enter Tryz.func38, Tryz.ntmps38
    go_wp2
    go_ret
    exact ⟨rfl, ⟨heap_alloc_new w _, HROW.out _, own_nil _ _ _ _⟩, by repeat (first | exact Below.refl _ _ | apply below_alloc | apply below_drew1 | apply pw_below_drewN)⟩
  · by_cases h2 : 1048576 < n
    · have e1 : Aside0 (cutQ n = 1048576) := ⟨by unfold cutQ; simp only [if_neg h1, if_pos h2]⟩
      rw [e1.out]
      go_enter Tryz.func38, Tryz.ntmps38
      go_wp2
      go_ret
      exact ⟨rfl, ⟨heap_alloc_new w _, HROW.out _, own_nil _ _ _ _⟩, by repeat (first | exact Below.refl _ _ | apply below_alloc | apply below_drew1 | apply pw_below_drewN)⟩
    · have e1 : Aside0 (cutQ n = n) := ⟨by unfold cutQ; simp only [if_neg h1, if_neg h2]⟩
      rw [e1.out]
      go_enter Tryz.func38, Tryz.ntmps38
      go_wp2
      go_ret
      exact ⟨rfl, ⟨heap_alloc_new w _, HROW.out _, own_nil _ _ _ _⟩, by repeat (first | exact Below.refl _ _ | apply below_alloc | apply below_drew1 | apply pw_below_drewN)⟩
end Go.Proofs.YtbpoapfkeinjnaaGreatDoor.Ld
namespace Go.Proofs.YtbpoapfkeinjnaaGreatDoor.Ld
open Go.RowKit Go.Proofs.YtbpoapfkeinjnaaGreatDoorW.PrintWords Go.Proofs.YtbpoapfkeinjnaaGreatDoorW.PrintLast Go.Proofs.YtbpoapfkeinjnaaGreatDoorW.PrintMore
set_option linter.unusedVariables false
set_option linter.unusedSimpArgs false
attribute [local go_sem] max2_int min2_int max_two min_two
structure Chg (S : Nat → Prop) (w w' : World) : Prop where
  os : w'.os = w.os
  tape : w'.tape = w.tape
  output : w'.output = w.output
  size : w.heap.size ≤ w'.heap.size
  block : ∀ k, k < w.heap.size → ¬ S k → w'.heap[k]? = w.heap[k]?
theorem Chg.of_below {w w1 : World} (h : Below w.heap.size w w1) (S : Nat → Prop) : Chg S w w1 := ⟨h.os, h.tape, h.output, h.size, fun i hi _ => h.block i hi⟩
theorem Chg.of_touch {g : Nat} {S : Nat → Prop} {w w1 : World} (h : Touch g w w1) (hs : S g) : Chg S w w1 := ⟨h.os, h.tape, h.output, h.size, fun i hi hn => h.block i hi (fun e => hn (e ▸ hs))⟩
theorem Chg.trans {S : Nat → Prop} {w w1 w2 : World} (h : Chg S w w1) (k : Chg S w1 w2) : Chg S w w2 :=
  ⟨k.os.trans h.os, k.tape.trans h.tape, k.output.trans h.output, Nat.le_trans h.size k.size, fun i hi hn => (k.block i (Nat.lt_of_lt_of_le hi h.size) hn).trans (h.block i hi hn)⟩
theorem Chg.set {S : Nat → Prop} {g : Nat} {w w1 : World} (h : Chg S w w1) (hs : S g) (j : Nat) (v : Value) : Chg S w (w1.setCell ⟨g, j, none⟩ v) :=
  ⟨h.os, h.tape, h.output, by simpa [World.setCell] using h.size, fun i hi hn => (Below.heap_setCell w1 ⟨g, j, none⟩ v i (fun e => hn (e ▸ hs))).trans (h.block i hi hn)⟩
theorem Chg.grown {S : Nat → Prop} {row : Option Nat} {w w1 w2 : World} (h : Chg S w w1) (hg : w1.grownBy w2 row) (hs : ∀ k, row = some k → S k) : Chg S w w2 :=
  h.trans ⟨hg.os, hg.tape, hg.output, hg.size, fun i hi hn => hg.block i hi (fun e => hn (hs i e.symm))⟩
theorem Chg.blk {S : Nat → Prop} {w w1 : World} {g : Nat} {o : Obj} (h : Chg S w w1) (hb : w.heap[g]? = some o) (hn : ¬ S g) : w1.heap[g]? = some o := (h.block g (blk_lt hb) hn).trans hb
theorem Chg.mono {S S' : Nat → Prop} {w w1 : World} (h : Chg S w w1) (hs : ∀ k, S k → S' k) : Chg S' w w1 := ⟨h.os, h.tape, h.output, h.size, fun i hi hn => h.block i hi (fun e => hn (hs i e))⟩
theorem Chg.below {S : Nat → Prop} {B : Nat} {w0 w w1 : World} (h : Chg S w w1) (hb : Below B w0 w) (hS : ∀ k, S k → B ≤ k) (hB : B ≤ w0.heap.size) : Below B w0 w1 :=
  ⟨h.os.trans hb.os, h.tape.trans hb.tape, h.output.trans hb.output, Nat.le_trans hb.size h.size, fun i hi => (h.block i (by have := hb.size; omega) (fun e => by have := hS i e; omega)).trans (hb.block i hi)⟩
end Go.Proofs.YtbpoapfkeinjnaaGreatDoor.Ld
