/- Plain laws for LedgerAgain: two ledgers whose ids are a number apart. -/
import Derived.Test.YtkldfjlbgmppfabLp2
namespace Go.Proofs.Ytkldfjlbgmppfab.Ld
set_option linter.unusedVariables false
set_option linter.unusedSimpArgs false
theorem u8_range {a : Int} (h : (Go.Lit.int .u8 a).wf = true) : 0 ≤ a ∧ a ≤ 255 := by
  have h : (decide ((0 : Int) ≤ a) && decide (a ≤ 255)) = true := h
  simpa using h
structure Shift (by_ : Int) (s t : Led) : Prop where
  b : t.budget = s.budget
  m : t.many = s.many
  u : t.used = s.used
  p : ∀ k, (t.p k).held = (s.p k).held ∧ (t.p k).mem = (s.p k).mem ∧ ((s.p k).held = true → (t.p k).id = (s.p k).id + by_)
theorem fnd_congr {q q' : Pl → Bool} {s t : Led} (hm : t.many = s.many) (h : ∀ k, q' (t.p k) = q (s.p k)) : fnd q' t = fnd q s := by
  unfold fnd
  rw [hm, show (fun i => q' (t.p i)) = (fun i => q (s.p i)) from funext h]
theorem Shift.of {c : Int} {s t : Led} (h : Shift c s t) (id : Int) : fnd (isOf (id + c)) t = fnd (isOf id) s := by
  refine fnd_congr h.m (fun k => ?_)
  obtain ⟨h1, h2, h3⟩ := h.p k
  unfold isOf
  rw [h1]
  cases hh : (s.p k).held
  · rfl
  · rw [h3 hh]
    show ((s.p k).id + c == id + c) = ((s.p k).id == id)
    rw [Bool.eq_iff_iff]; simp
theorem Shift.free {c : Int} {s t : Led} (h : Shift c s t) : fnd isFree t = fnd isFree s := by
  refine fnd_congr h.m (fun k => ?_)
  unfold isFree
  rw [(h.p k).1]
theorem cnt_congr {p p' : Nat → Pl} (h : ∀ k, (p' k).held = (p k).held) : ∀ n, cntFree p' n = cntFree p n
  | 0 => rfl
  | n + 1 => by simp only [cntFree]; rw [cnt_congr h n, h n]
theorem Shift.slots {c : Int} {s t : Led} (h : Shift c s t) : Ld.slots t = Ld.slots s := by
  unfold Ld.slots; rw [h.m, cnt_congr (fun k => (h.p k).1)]
theorem Shift.refl (c : Int) (b k : Int) : Shift c (fresh b k) (fresh b k) := ⟨rfl, rfl, rfl, fun i => ⟨rfl, rfl, fun h => absurd h (by simp [fresh, nobody])⟩⟩
theorem Shift.putAt {c : Int} {s t : Led} (h : Shift c s t) (i : Nat) {x y : Pl} (hx : y.held = x.held ∧ y.mem = x.mem ∧ (x.held = true → y.id = x.id + c)) (n : Int) : Shift c ((s.put i x).uses n) ((t.put i y).uses n) := by
  refine ⟨h.b, h.m, rfl, fun k => ?_⟩
  show (upd t.p i y k).held = (upd s.p i x k).held ∧ (upd t.p i y k).mem = (upd s.p i x k).mem ∧ ((upd s.p i x k).held = true → (upd t.p i y k).id = (upd s.p i x k).id + c)
  by_cases e : k = i
  · subst e; rw [upd_same, upd_same]; exact hx
  · rw [upd_far _ _ _ e, upd_far _ _ _ e]; exact h.p k
theorem Shift.take {c : Int} {s t : Led} (h : Shift c s t) {id mem : Int} (hc : 0 ≤ c) (h0 : 0 ≤ id) : takeErr t (id + c) mem = takeErr s id mem ∧ takeSlot t (id + c) mem = takeSlot s id mem ∧ Shift c (takeSt s id mem) (takeSt t (id + c) mem) := by
  have he : takeErr t (id + c) mem = takeErr s id mem := by
    unfold takeErr
    rw [h.of, h.free, h.b, h.u]
    by_cases h1 : mem < 0
    · rw [if_pos (.inr h1), if_pos (.inr h1)]
    · rw [if_neg (show ¬ (id + c < 0 ∨ mem < 0) by omega), if_neg (show ¬ (id < 0 ∨ mem < 0) by omega)]
  refine ⟨he, ?_, ?_⟩
  · unfold takeSlot; rw [he, h.free]
  · unfold takeSt
    rw [he, h.free, h.u]
    split
    · exact h.putAt (x := ⟨true, id, mem⟩) (y := ⟨true, id + c, mem⟩) _ ⟨rfl, rfl, fun _ => rfl⟩ _
    · exact h
theorem Shift.frees {c : Int} {s t : Led} (h : Shift c s t) (id : Int) : freeErr t (id + c) = freeErr s id ∧ Shift c (freeSt s id) (freeSt t (id + c)) := by
  refine ⟨by unfold freeErr; rw [h.of], ?_⟩
  unfold freeSt
  rw [h.of, h.u, (h.p _).2.1]
  split
  · exact h
  · refine ⟨h.b, h.m, rfl, fun k => ?_⟩
    exact (h.putAt (fnd (isOf id) s).toNat (x := nobody) (y := nobody) ⟨rfl, rfl, fun hh => by cases hh⟩ 0).p k
end Go.Proofs.Ytkldfjlbgmppfab.Ld
