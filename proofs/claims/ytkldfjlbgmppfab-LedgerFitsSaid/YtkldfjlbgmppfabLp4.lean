/- Plain laws for LedgerFits. -/
import Derived.Test.YtkldfjlbgmppfabLp2
namespace Go.Proofs.Ytkldfjlbgmppfab.Ld
set_option linter.unusedVariables false
set_option linter.unusedSimpArgs false
/-- LedgerFits, ahead of step 'i': the first 'n' slots are held, by ids below 'i'. -/
structure FitS (s : Led) (B left : Int) (n i : Nat) : Prop where
  inv : Inv s
  b : s.budget = B
  m : s.many = 16
  u : s.used = B - left
  l0 : 0 ≤ left
  lB : left ≤ B
  ni : n ≤ i
  low : ∀ k, k < n → (s.p k).held = true ∧ (s.p k).id < i
  high : ∀ k, n ≤ k → s.p k = nobody
  sl : slots s = 16 - n
theorem fitS_fresh (B : Int) (h0 : 0 ≤ B) (h1 : B ≤ 9223372036854775807) : FitS (fresh B 16) B B 0 0 := by
  refine ⟨inv_fresh B 16 h1, ?_, rfl, ?_, h0, Int.le_refl _, Nat.le_refl _, fun k hk => by omega, fun k _ => rfl, ?_⟩
  · show Ld.pos B = B; unfold Ld.pos; rw [if_neg (by omega)]
  · show (0 : Int) = B - B; omega
  · show ((cntFree (fun _ => nobody) 16 : Nat) : Int) = 16 - 0
    rw [cnt_all _ _ (fun _ _ => rfl)]; rfl
theorem FitS.err {s : Led} {B left : Int} {n i : Nat} (h : FitS s B left n i) (hi : i < 16) {M : Int} (hM : 0 ≤ M) : takeErr s i M = if B < M then 5 else if left < M then 4 else 0 := by
  have hni := h.ni
  have h1 : fnd (isOf (i : Int)) s = -1 := fnd_out h.inv (fun k hk he => by
    by_cases hkn : k < n
    · have := (h.low k hkn).2; omega
    · rw [h.high k (by omega)] at hk; cases hk)
  have h2 : fnd isFree s = (n : Int) := fnd_some (by rw [h.m]; omega) (by rw [h.high n (Nat.le_refl _)]; rfl) (fun j hj => by unfold isFree; rw [(h.low j hj).1]; rfl)
  unfold takeErr
  rw [if_neg (by omega), h.b, h1, if_neg (show ¬ (0 : Int) ≤ -1 by omega), h2, h.u]
  by_cases hB : B < M
  · rw [if_pos hB, if_pos hB]
  · rw [if_neg hB, if_neg hB]
    by_cases hl : left < M
    · rw [if_pos (by omega), if_pos hl]
    · rw [if_neg (by omega), if_neg hl]
theorem FitS.yes {s : Led} {B left : Int} {n i : Nat} (h : FitS s B left n i) (hi : i < 16) {M : Int} (hM : 0 ≤ M) (he : takeErr s i M = 0) (hl : M ≤ left) : takeSlot s i M = (n : Int) ∧ FitS (takeSt s i M) B (left - M) (n + 1) (i + 1) := by
  obtain ⟨k, hT⟩ := took h.inv he
  have hk : k = n := by
    rcases Nat.lt_trichotomy k n with c | c | c
    · have := (h.low k c).1; rw [hT.was] at this; cases this
    · exact c
    · have := hT.low n c; rw [h.high n (Nat.le_refl _)] at this; cases this
  subst hk
  refine ⟨hT.slot, inv_take h.inv _ _, (take_budget _ _ _).trans h.b, (take_many _ _ _).trans h.m, ?_, by omega, by have := h.lB; omega, by have := h.ni; omega, ?_, ?_, ?_⟩
  · rw [hT.used, h.u]; omega
  · intro j hj
    rw [hT.st]
    show (upd s.p k _ j).held = true ∧ (upd s.p k _ j).id < _
    by_cases e : j = k
    · subst e; rw [upd_same]; exact ⟨rfl, by show (i : Int) < _; omega⟩
    · rw [upd_far _ _ _ e]; have := h.low j (by omega); exact ⟨this.1, by omega⟩
  · intro j hj
    rw [hT.st]
    show upd s.p k _ j = nobody
    rw [upd_far _ _ _ (by omega)]; exact h.high j (by omega)
  · rw [hT.slots, h.sl]; omega
theorem FitS.no {s : Led} {B left : Int} {n i : Nat} (h : FitS s B left n i) {M : Int} (he : takeErr s i M ≠ 0) : takeSlot s i M = 0 ∧ FitS (takeSt s i M) B left n (i + 1) := by
  obtain ⟨h1, h2⟩ := take_no he
  rw [h2]
  exact ⟨h1, h.inv, h.b, h.m, h.u, h.l0, h.lB, by have := h.ni; omega, fun k hk => ⟨(h.low k hk).1, by have := (h.low k hk).2; omega⟩, h.high, h.sl⟩
end Go.Proofs.Ytkldfjlbgmppfab.Ld
