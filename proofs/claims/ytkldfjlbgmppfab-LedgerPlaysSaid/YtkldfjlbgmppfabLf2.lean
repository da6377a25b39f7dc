import Derived.Test.YtkldfjlbgmppfabLf1
namespace Go.Proofs.Ytkldfjlbgmppfab.Ld
open Go.RowKit Go.Proofs.YtkldfjlbgmppfabW.PrintWords Go.Proofs.YtkldfjlbgmppfabW.PrintLast Go.Proofs.YtkldfjlbgmppfabW.PrintMore
set_option linter.unusedVariables false
set_option linter.unusedSimpArgs false
attribute [local go_sem] max2_int min2_int max_two min_two

def slotI (s : Led) (id : Int) : Int := if fnd (isOf id) s < 0 then 0 else fnd (isOf id) s
def slotB (s : Led) (id : Int) : Bool := decide (0 ≤ fnd (isOf id) s)
theorem findFree_r {g : Nat} {s : Led} {r : Int} (hr : fnd isFree s = r) (hm : s.many ≤ 16) (w : World) (ha : At w g s) : Calls Try.prog 49 #[.pointer (some ⟨g, 0, none⟩), .func (.func 50) #[] #[]] w fun e w' => e = .returned (.int .i64 r) ∧ Below w.heap.size w w' := by
  subst hr; exact findFree_calls g s hm w ha
theorem findOf_r {g : Nat} {s : Led} {r : Int} (b : Nat) (id : Int) (hr : fnd (isOf id) s = r) (hm : s.many ≤ 16) (w : World) (ha : At w g s) (hc : w.cell? ⟨b, 0, none⟩ = some (.int .i64 id)) : Calls Try.prog 49 #[.pointer (some ⟨g, 0, none⟩), .func (.func 58) #[] #[.pointer (some ⟨b, 0, none⟩)]] w fun e w' => e = .returned (.int .i64 r) ∧ Below w.heap.size w w' := by
  subst hr; exact findOf_calls g s hm b id w ha hc
theorem new_cell (w : World) (id : Int) : (w.alloc (.cells #[.int .i64 id] 3)).cell? ⟨w.heap.size, 0, none⟩ = some (.int .i64 id) := (blk_cell (blk_new w _) 0).trans rfl

set_option maxHeartbeats 8000000 in
set_option maxRecDepth 100000 in
theorem Slot_calls (g : Nat) (s : Led) (hm : s.many ≤ 16) (id : Int) (w : World) (ha : At w g s) : Calls Try.prog 30 #[.pointer (some ⟨g, 0, none⟩), .int .i64 id] w fun e w' => e = .returned (.tuple #[.int .i64 (slotI s id), .bool (slotB s id)]) ∧ Below w.heap.size w w' := by
  obtain ⟨r, hr⟩ : ∃ r, fnd (isOf id) s = r := ⟨_, rfl⟩
  have HI : Aside0 (slotI s id = if r < 0 then 0 else r) := ⟨by unfold slotI; rw [hr]⟩
  have HJ : Aside0 (slotB s id = decide (0 ≤ r)) := ⟨by unfold slotB; rw [hr]⟩
  have HR := Aside0.mk hr
  clear hr
  by_cases h0 : r < 0
  · go_enter Try.func30, Try.ntmps30
    go_wp2_with (first
      | (go_at_call 51; (with_reducible refine (of_calls id _).mono ?_); rintro e w1 ⟨rfl, rfl⟩)
      | (go_at_call 49; (with_reducible refine (findOf_r _ id HR.out hm _ ?ha ?hc).mono ?_); (case ha => exact ha.below (below_alloc (Below.refl _ _) _)); (case hc => exact new_cell _ _); rintro e w2 ⟨rfl, hb2⟩; have HB2 := Aside0.mk (below_step (below_alloc (Below.refl _ _) _) hb2); clear hb2))
    go_ret2
    exact ⟨by rw [HI.out, HJ.out, if_pos h0, decide_eq_false (by omega)]; rfl, HB2.out⟩
  · have h1 : 0 ≤ r := by omega
    go_enter Try.func30, Try.ntmps30
    go_wp2_with (first
      | (go_at_call 51; (with_reducible refine (of_calls id _).mono ?_); rintro e w1 ⟨rfl, rfl⟩)
      | (go_at_call 49; (with_reducible refine (findOf_r _ id HR.out hm _ ?ha ?hc).mono ?_); (case ha => exact ha.below (below_alloc (Below.refl _ _) _)); (case hc => exact new_cell _ _); rintro e w2 ⟨rfl, hb2⟩; have HB2 := Aside0.mk (below_step (below_alloc (Below.refl _ _) _) hb2); clear hb2))
    go_ret2
    exact ⟨by rw [HI.out, HJ.out, if_neg (by omega), decide_eq_true h1]; rfl, HB2.out⟩

set_option maxHeartbeats 8000000 in
set_option maxRecDepth 100000 in
theorem Used_calls (g : Nat) (s : Led) (w : World) (ha : At w g s) : Calls Try.prog 32 #[.pointer (some ⟨g, 0, none⟩)] w fun e w' => e = .returned (.int .i64 s.used) ∧ Drawn0 w w' := by
  have c1 := ha.used
  go_enter Try.func32, Try.ntmps32
  go_wp2
  go_ret
  exact ⟨rfl, by repeat (first | exact Drawn0.refl _ | apply Drawn0.step)⟩

set_option maxHeartbeats 8000000 in
set_option maxRecDepth 100000 in
theorem Room_calls (g : Nat) (s : Led) (w : World) (ha : At w g s) (h0 : 0 ≤ s.used) (h1 : s.used ≤ s.budget) (h2 : s.budget ≤ 9223372036854775807) : Calls Try.prog 34 #[.pointer (some ⟨g, 0, none⟩)] w fun e w' => e = .returned (.int .i64 (s.budget - s.used)) ∧ Drawn0 w w' := by
  have c1 := ha.used
  have c2 := ha.budget
  go_enter Try.func34, Try.ntmps34
  go_wp2
  go_quiet (fail)
  go_wp2
  go_ret
  exact ⟨rfl, by repeat (first | exact Drawn0.refl _ | apply Drawn0.step)⟩

/-- How many slots nobody has. -/
def cntFree (p : Nat → Pl) : Nat → Nat
  | 0 => 0
  | n + 1 => cntFree p n + if (p n).held then 0 else 1
theorem cntFree_le (p : Nat → Pl) (n : Nat) : cntFree p n ≤ n := by
  induction n with
  | zero => exact Nat.le_refl _
  | succ n ih => simp only [cntFree]; split <;> omega
def slots (s : Led) : Int := (cntFree s.p s.many : Int)

set_option maxHeartbeats 8000000 in
set_option maxRecDepth 100000 in
theorem Slots_calls (g : Nat) (s : Led) (hm : s.many ≤ 16) (w : World) (ha : At w g s) : Calls Try.prog 35 #[.pointer (some ⟨g, 0, none⟩)] w fun e w' => e = .returned (.int .i64 (slots s)) ∧ Below w.heap.size w w' := by
  have c1 := ha.many
  have hm2 : (s.many : Int) ≤ 16 := by omega
  go_enter Try.func35, Try.ntmps35
  go_wp2
  go_quiet (fail)
  go_wp2
  go_loopg [3, 15] 17 (fun kq v3 v15 wr => ∃ i n : Nat, v15 = .int .i64 (i : Int) ∧ v3 = .int .i64 (n : Int) ∧ Aside0 (kq + i = 17 ∧ i ≤ s.many ∧ n = cntFree s.p i ∧ Below w.heap.size w wr))
  case atStart => exact ⟨0, 0, rfl, rfl, ⟨by omega, by omega, rfl, by repeat (first | exact Below.refl _ _ | apply below_alloc | apply below_drew1 | apply pw_below_drewN)⟩⟩
  case round =>
    obtain ⟨i, n, rfl, rfl, hA⟩ := hrel
    obtain ⟨hk, hi, hn, hb⟩ := hA.out
    have HN := Aside0.mk hn
    have HB := Aside0.mk hb
    have hn2 : n ≤ i := by rw [hn]; exact cntFree_le _ _
    clear hA hn
    by_cases hlt : i < s.many
    · have har := ha.below hb
      have c2 := har.held i (by omega)
      have c3 := har.id i (by omega)
      have c4 := har.mem i (by omega)
      have p1 : (0 ≤ (i : Int)) = True := eq_true (by omega)
      have p2 : ((i : Int) < (s.many : Int)) = True := eq_true (by omega)
      generalize hp : s.p i = p at c2 c3 c4
      have HP := Aside0.mk hp
      clear hp hb har
      obtain ⟨h, a, m⟩ := p
      simp only at c2 c3 c4
      cases h
      · go_wp2
        go_roundg (gk - 1)
        case measure => omega
        case rel => exact ⟨i + 1, n + 1, rfl, rfl, ⟨by omega, by omega, by simp only [cntFree, HP.out, HN.out]; rfl, below_alloc HB.out _⟩⟩
      · go_wp2
        go_roundg (gk - 1)
        case measure => omega
        case rel => exact ⟨i + 1, n, rfl, rfl, ⟨by omega, by omega, by simp only [cntFree, HP.out, HN.out]; rfl, below_alloc HB.out _⟩⟩
    · have hi2 := Aside0.mk (show i = s.many by omega)
      go_wp2
      go_ret
      refine ⟨?_, HB.out⟩
      unfold slots
      rw [← hi2.out, ← HN.out]
      rfl
end Go.Proofs.Ytkldfjlbgmppfab.Ld
