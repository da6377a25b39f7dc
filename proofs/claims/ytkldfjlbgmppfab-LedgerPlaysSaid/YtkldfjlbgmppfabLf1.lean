import Derived.Test.YtkldfjlbgmppfabLd
namespace Go.Proofs.Ytkldfjlbgmppfab.Ld
open Go.RowKit Go.Proofs.YtkldfjlbgmppfabW.PrintWords Go.Proofs.YtkldfjlbgmppfabW.PrintLast Go.Proofs.YtkldfjlbgmppfabW.PrintMore
set_option linter.unusedVariables false
set_option linter.unusedSimpArgs false
attribute [local go_sem] max2_int min2_int max_two min_two
/-- Is it free? -/
def isFree (p : Pl) : Bool := !p.held
/-- Is it the slot of 'id'? -/
def isOf (id : Int) (p : Pl) : Bool := p.held && p.id == id
set_option maxHeartbeats 8000000 in
set_option maxRecDepth 100000 in
theorem free_calls (p : Pl) (w : World) : Calls Try.prog 50 #[.agg #[.bool p.held, .int .i64 p.id, .int .i64 p.mem]] w fun e w' => e = .returned (.bool (isFree p)) ∧ Below w.heap.size w w' := by
  go_enter Try.func50, Try.ntmps50
  go_wp2
  go_ret
  exact ⟨rfl, by repeat (first | exact Below.refl _ _ | apply below_alloc | apply below_drew1 | apply pw_below_drewN)⟩

set_option maxHeartbeats 8000000 in
set_option maxRecDepth 100000 in
theorem of_calls (id : Int) (w : World) : Calls Try.prog 51 #[.int .i64 id] w fun e w' => e = .returned (.func (.func 58) #[] #[.pointer (some ⟨w.heap.size, 0, none⟩)]) ∧ w' = w.alloc (.cells #[.int .i64 id] 3) := by
  go_enter Try.func51, Try.ntmps51
  go_wp2
  go_ret
  exact ⟨rfl, rfl⟩

set_option maxHeartbeats 8000000 in
set_option maxRecDepth 100000 in
theorem ofs_calls (p : Pl) (b : Nat) (id : Int) (w : World) (hc : w.cell? ⟨b, 0, none⟩ = some (.int .i64 id)) : Calls Try.prog 58 #[.agg #[.bool p.held, .int .i64 p.id, .int .i64 p.mem], .pointer (some ⟨b, 0, none⟩)] w fun e w' => e = .returned (.bool (isOf id p)) ∧ Below w.heap.size w w' := by
  have hc2 := pw_cell_below (below_alloc (Below.refl _ w) (.cells #[.bool p.held, .int .i64 p.id, .int .i64 p.mem] 67)) hc
  obtain ⟨h, a, m⟩ := p
  simp only at hc2 ⊢
  cases h
  · go_enter Try.func58, Try.ntmps58
    go_wp2
    go_ret
    exact ⟨rfl, by repeat (first | exact Below.refl _ _ | apply below_alloc | apply below_drew1 | apply pw_below_drewN)⟩
  · go_enter Try.func58, Try.ntmps58
    go_wp2
    go_ret
    exact ⟨rfl, by repeat (first | exact Below.refl _ _ | apply below_alloc | apply below_drew1 | apply pw_below_drewN)⟩

set_option maxHeartbeats 8000000 in
set_option maxRecDepth 100000 in
theorem findFree_calls (g : Nat) (s : Led) (hm : s.many ≤ 16) (w : World) (ha : At w g s) : Calls Try.prog 49 #[.pointer (some ⟨g, 0, none⟩), .func (.func 50) #[] #[]] w fun e w' => e = .returned (.int .i64 (fnd isFree s)) ∧ Below w.heap.size w w' := by
  have c1 := ha.many
  have hm2 : (s.many : Int) ≤ 16 := by omega
  go_enter Try.func49, Try.ntmps49
  go_wp2
  go_quiet (fail)
  go_wp2
  go_loopg [16] 17 (fun kq v16 wr => ∃ i : Nat, v16 = .int .i64 (i : Int) ∧ Aside0 (kq + i = 17 ∧ i ≤ s.many ∧ (∀ j, j < i → isFree (s.p j) = false) ∧ Below w.heap.size w wr))
  case atStart => exact ⟨0, rfl, ⟨by omega, by omega, fun j hj => by omega, by repeat (first | exact Below.refl _ _ | apply below_alloc | apply below_drew1 | apply pw_below_drewN)⟩⟩
  case round =>
    obtain ⟨i, rfl, hA⟩ := hrel
    obtain ⟨hk, hi, hall, hb⟩ := hA.out
    have HA := Aside0.mk hall
    have HB := Aside0.mk hb
    clear hA hall
    by_cases hlt : i < s.many
    · have har := ha.below hb
      have c2 := har.held i (by omega)
      have c3 := har.id i (by omega)
      have c4 := har.mem i (by omega)
      have p1 : (0 ≤ (i : Int)) = True := eq_true (by omega)
      have p2 : ((i : Int) < (s.many : Int)) = True := eq_true (by omega)
      generalize hp : s.p i = p at c2 c3 c4
      have HP := Aside0.mk hp
      clear hp hb har
      cases hq : isFree p
      all_goals
        go_wp2_with (go_at_call 50; (with_reducible refine (free_calls p _).mono ?_); (try (case hc => exact pw_cell_below (below_alloc HB.out _) hc)); rintro e w2 ⟨rfl, hb2⟩; simp only [hq]; have HB2 := Aside0.mk (below_step (below_alloc HB.out _) hb2); clear hb2)
      · go_roundg (gk - 1)
        case measure => omega
        case rel =>
          refine ⟨i + 1, rfl, ⟨by omega, by omega, fun j hj => ?_, HB2.out⟩⟩
          rcases Nat.lt_succ_iff_lt_or_eq.1 hj with h | rfl
          · exact HA.out j h
          · rw [HP.out]; exact hq
      · go_ret
        exact ⟨by rw [fnd_some hlt (by rw [HP.out]; exact hq) HA.out]; rfl, HB2.out⟩
    · have hi2 : i = s.many := by omega
      have hf := Aside0.mk (fnd_none (q := isFree) (s := s) (fun j hj => HA.out j (by omega)))
      clear hi2
      go_wp2
      go_ret
      exact ⟨by rw [hf.out]; rfl, HB.out⟩

set_option maxHeartbeats 8000000 in
set_option maxRecDepth 100000 in
theorem findOf_calls (g : Nat) (s : Led) (hm : s.many ≤ 16) (b : Nat) (id : Int) (w : World) (ha : At w g s) (hc : w.cell? ⟨b, 0, none⟩ = some (.int .i64 id)) : Calls Try.prog 49 #[.pointer (some ⟨g, 0, none⟩), .func (.func 58) #[] #[.pointer (some ⟨b, 0, none⟩)]] w fun e w' => e = .returned (.int .i64 (fnd (isOf id) s)) ∧ Below w.heap.size w w' := by
  have c1 := ha.many
  have hm2 : (s.many : Int) ≤ 16 := by omega
  go_enter Try.func49, Try.ntmps49
  go_wp2
  go_quiet (fail)
  go_wp2
  go_loopg [16] 17 (fun kq v16 wr => ∃ i : Nat, v16 = .int .i64 (i : Int) ∧ Aside0 (kq + i = 17 ∧ i ≤ s.many ∧ (∀ j, j < i → (isOf id) (s.p j) = false) ∧ Below w.heap.size w wr))
  case atStart => exact ⟨0, rfl, ⟨by omega, by omega, fun j hj => by omega, by repeat (first | exact Below.refl _ _ | apply below_alloc | apply below_drew1 | apply pw_below_drewN)⟩⟩
  case round =>
    obtain ⟨i, rfl, hA⟩ := hrel
    obtain ⟨hk, hi, hall, hb⟩ := hA.out
    have HA := Aside0.mk hall
    have HB := Aside0.mk hb
    clear hA hall
    by_cases hlt : i < s.many
    · have har := ha.below hb
      have c2 := har.held i (by omega)
      have c3 := har.id i (by omega)
      have c4 := har.mem i (by omega)
      have p1 : (0 ≤ (i : Int)) = True := eq_true (by omega)
      have p2 : ((i : Int) < (s.many : Int)) = True := eq_true (by omega)
      generalize hp : s.p i = p at c2 c3 c4
      have HP := Aside0.mk hp
      clear hp hb har
      cases hq : (isOf id) p
      all_goals
        go_wp2_with (go_at_call 58; (with_reducible refine (ofs_calls p b id _ ?hc).mono ?_); (try (case hc => exact pw_cell_below (below_alloc HB.out _) hc)); rintro e w2 ⟨rfl, hb2⟩; simp only [hq]; have HB2 := Aside0.mk (below_step (below_alloc HB.out _) hb2); clear hb2)
      · go_roundg (gk - 1)
        case measure => omega
        case rel =>
          refine ⟨i + 1, rfl, ⟨by omega, by omega, fun j hj => ?_, HB2.out⟩⟩
          rcases Nat.lt_succ_iff_lt_or_eq.1 hj with h | rfl
          · exact HA.out j h
          · rw [HP.out]; exact hq
      · go_ret
        exact ⟨by rw [fnd_some hlt (by rw [HP.out]; exact hq) HA.out]; rfl, HB2.out⟩
    · have hi2 : i = s.many := by omega
      have hf := Aside0.mk (fnd_none (q := (isOf id)) (s := s) (fun j hj => HA.out j (by omega)))
      clear hi2
      go_wp2
      go_ret
      exact ⟨by rw [hf.out]; rfl, HB.out⟩

end Go.Proofs.Ytkldfjlbgmppfab.Ld
