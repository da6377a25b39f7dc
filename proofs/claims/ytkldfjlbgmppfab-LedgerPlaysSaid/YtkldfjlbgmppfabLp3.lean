/- Plain laws for LedgerLowest, LedgerFits. -/
import Derived.Test.YtkldfjlbgmppfabLp2
namespace Go.Proofs.Ytkldfjlbgmppfab.Ld
set_option linter.unusedVariables false
set_option linter.unusedSimpArgs false
theorem slots_pos_iff {s : Led} : 0 < slots s ↔ 0 ≤ fnd isFree s := by
  unfold slots
  rcases fnd_cases isFree s with ⟨h1, h2⟩ | ⟨i, h1, h2, h3, h4⟩
  · have : cntFree s.p s.many = 0 := by
      rcases Nat.eq_zero_or_pos (cntFree s.p s.many) with h | h
      · exact h
      · exfalso
        have key : ∀ n, (∀ i, i < n → (s.p i).held = true) → cntFree s.p n = 0 := by
          intro n
          induction n with
          | zero => intro _; rfl
          | succ n ih => intro hh; simp only [cntFree]; rw [ih (fun i hi => hh i (by omega)), hh n (by omega)]; rfl
        have := key s.many (fun i hi => by simpa [isFree] using h2 i hi)
        omega
    rw [h1, this]; omega
  · have := cnt_pos s.p s.many i h2 (by simpa [isFree] using h3)
    rw [h1]; omega
theorem lowest {s : Led} (hs : Inv s) (hb : s.budget = 0) {d : Int} (hd : 0 ≤ d) : takeErr s d 0 = 0 ↔ 0 < slots s ∧ slotB s d = false := by
  have hu : s.used = 0 := by have := hs.pos; have := hs.le; omega
  rw [slots_pos_iff]
  have e1 : slotB s d = false ↔ ¬ 0 ≤ fnd (isOf d) s := by unfold slotB; simp
  rw [e1]
  unfold takeErr
  rw [if_neg (by omega), hb, if_neg (by omega), hu]
  by_cases h1 : 0 ≤ fnd (isOf d) s
  · rw [if_pos h1]; constructor <;> intro h <;> omega
  · rw [if_neg h1]
    by_cases h2 : fnd isFree s < 0
    · rw [if_pos (.inl h2)]; constructor <;> intro h <;> omega
    · rw [if_neg (by omega)]; constructor <;> intro h <;> omega
/-- Behind a Take that is OK all lower slots are held, and its own. -/
theorem took_low {s : Led} {id mem : Int} {i : Nat} (h : Took s id mem i) : ∀ k : Nat, k ≤ i → atB (takeSt s id mem) (k : Int) = true := by
  intro k hk
  have hlt : k < (takeSt s id mem).many := by rw [take_many]; have := h.lt; omega
  rw [(atB_in hlt).1, h.st]
  show (upd s.p i _ k).held = true
  by_cases e : k = i
  · subst e; rw [upd_same]
  · rw [upd_far _ _ _ e]; exact h.low k (by omega)
end Go.Proofs.Ytkldfjlbgmppfab.Ld
