/- What a ledger keeps: plain laws of its states. No program is in sight. -/
import Derived.Test.YtkldfjlbgmppfabLf4
namespace Go.Proofs.Ytkldfjlbgmppfab.Ld
set_option linter.unusedVariables false
set_option linter.unusedSimpArgs false

/-- The memory of the first 'n' slots. -/
def tot (p : Nat → Pl) : Nat → Int
  | 0 => 0
  | n + 1 => tot p n + (p n).mem
theorem tot_upd_far (p : Nat → Pl) (i : Nat) (x : Pl) : ∀ n, n ≤ i → tot (upd p i x) n = tot p n
  | 0, _ => rfl
  | n + 1, h => by simp only [tot]; rw [tot_upd_far p i x n (by omega), upd_far _ _ _ (by omega)]
theorem tot_upd (p : Nat → Pl) (i : Nat) (x : Pl) : ∀ n, i < n → tot (upd p i x) n = tot p n - (p i).mem + x.mem
  | 0, h => by omega
  | n + 1, h => by
    simp only [tot]
    by_cases e : i = n
    · subst e; rw [tot_upd_far p i x i (Nat.le_refl _), upd_same]; omega
    · rw [tot_upd p i x n (by omega), upd_far _ _ _ (by omega)]; omega
theorem tot_pos (p : Nat → Pl) (h : ∀ i, 0 ≤ (p i).mem) : ∀ n, 0 ≤ tot p n
  | 0 => Int.le_refl _
  | n + 1 => by have := tot_pos p h n; have := h n; simp only [tot]; omega
theorem mem_le_tot (p : Nat → Pl) (h : ∀ i, 0 ≤ (p i).mem) : ∀ n i, i < n → (p i).mem ≤ tot p n
  | 0, i, hi => by omega
  | n + 1, i, hi => by
    simp only [tot]
    by_cases e : i = n
    · subst e; have := tot_pos p h i; omega
    · have := mem_le_tot p h n i (by omega); have := h n; omega
theorem tot_mono (p : Nat → Pl) (h : ∀ i, 0 ≤ (p i).mem) (n : Nat) : ∀ k, tot p n ≤ tot p (n + k)
  | 0 => Int.le_refl _
  | k + 1 => by have := tot_mono p h n k; have h3 := h (n + k); show _ ≤ tot p (n + k) + (p (n + k)).mem; omega
theorem tot_out (p : Nat → Pl) (n : Nat) (h : ∀ i, n ≤ i → (p i).mem = 0) : ∀ k, tot p (n + k) = tot p n
  | 0 => rfl
  | k + 1 => by show tot p (n + k) + (p (n + k)).mem = _; rw [tot_out p n h k, h (n + k) (by omega)]; omega
theorem tot_zero (p : Nat → Pl) : ∀ n, (∀ i, i < n → (p i).mem = 0) → tot p n = 0
  | 0, _ => rfl
  | n + 1, h => by simp only [tot]; rw [tot_zero p n (fun i hi => h i (by omega)), h n (by omega)]; omega

theorem cnt_upd_far (p : Nat → Pl) (i : Nat) (x : Pl) : ∀ n, n ≤ i → cntFree (upd p i x) n = cntFree p n
  | 0, _ => rfl
  | n + 1, h => by simp only [cntFree]; rw [cnt_upd_far p i x n (by omega), upd_far _ _ _ (by omega)]
theorem cnt_upd (p : Nat → Pl) (i : Nat) (x : Pl) : ∀ n, i < n → cntFree (upd p i x) n + (if (p i).held then 0 else 1) = cntFree p n + (if x.held then 0 else 1)
  | 0, h => by omega
  | n + 1, h => by
    simp only [cntFree]
    by_cases e : i = n
    · subst e; rw [cnt_upd_far p i x i (Nat.le_refl _), upd_same]; omega
    · have := cnt_upd p i x n (by omega); rw [upd_far _ _ _ (show n ≠ i by omega)]; omega
theorem cnt_zero (p : Nat → Pl) : ∀ n, cntFree p n = 0 → ∀ i, i < n → (p i).held = true
  | 0, _, i, hi => by omega
  | n + 1, h, i, hi => by
    simp only [cntFree] at h
    by_cases e : i = n
    · subst e
      cases hh : (p i).held
      · rw [hh] at h; simp at h
      · rfl
    · exact cnt_zero p n (by omega) i (by omega)
theorem cnt_pos (p : Nat → Pl) : ∀ n i, i < n → (p i).held = false → 0 < cntFree p n
  | 0, i, hi, _ => by omega
  | n + 1, i, hi, hh => by
    simp only [cntFree]
    by_cases e : i = n
    · subst e; rw [hh]; simp
    · have := cnt_pos p n i (by omega) hh; omega
theorem cnt_all (p : Nat → Pl) : ∀ n, (∀ i, i < n → (p i).held = false) → cntFree p n = n
  | 0, _ => rfl
  | n + 1, h => by simp only [cntFree]; rw [cnt_all p n (fun i hi => h i (by omega)), h n (by omega)]; simp

structure Inv (s : Led) : Prop where
  many : s.many ≤ 16
  used : s.used = tot s.p s.many
  le : s.used ≤ s.budget
  big : s.budget ≤ 9223372036854775807
  mem : ∀ i, 0 ≤ (s.p i).mem
  free : ∀ i, (s.p i).held = false → s.p i = nobody
  out : ∀ i, s.many ≤ i → s.p i = nobody
  uniq : ∀ i j, (s.p i).held = true → (s.p j).held = true → (s.p i).id = (s.p j).id → i = j
theorem Inv.pos {s : Led} (h : Inv s) : 0 ≤ s.used := by rw [h.used]; exact tot_pos _ h.mem _
theorem Inv.fits {s : Led} (h : Inv s) : Fits s :=
  ⟨h.many, fun i hi => ⟨h.mem i, by rw [h.used]; exact mem_le_tot _ h.mem _ _ hi⟩, h.pos, h.le, h.big⟩
theorem pos_nonneg (n : Int) : 0 ≤ Ld.pos n := by unfold Ld.pos; split <;> omega
theorem inv_fresh (b k : Int) (hb : b ≤ 9223372036854775807) : Inv (fresh b k) := by
  have hz : ∀ n, tot (fun _ => nobody) n = 0 := fun n => tot_zero _ n (fun i _ => rfl)
  refine ⟨?_, ?_, ?_, ?_, fun i => Int.le_refl _, fun i _ => rfl, fun i _ => rfl, fun i j h => ?_⟩
  · show (if 16 < Ld.pos k then 16 else Ld.pos k).toNat ≤ 16
    split <;> omega
  · exact (hz _).symm
  · exact pos_nonneg b
  · show Ld.pos b ≤ _; unfold Ld.pos; split <;> omega
  · exact absurd h (by simp [fresh, nobody])

/-! What 'find' finds. -/
theorem fnd_lt {q : Pl → Bool} {s : Led} {i : Nat} (h : fnd q s = (i : Int)) : i < s.many ∧ q (s.p i) = true ∧ ∀ j, j < i → q (s.p j) = false := by
  rcases fnd_cases q s with ⟨h1, _⟩ | ⟨k, h1, h2, h3, h4⟩
  · rw [h1] at h; omega
  · obtain rfl : k = i := by rw [h1] at h; omega
    exact ⟨h2, h3, h4⟩
theorem fnd_neg {q : Pl → Bool} {s : Led} (h : fnd q s < 0) : fnd q s = -1 ∧ ∀ i, i < s.many → q (s.p i) = false := by
  rcases fnd_cases q s with h1 | ⟨k, h1, h2, h3, h4⟩
  · exact h1
  · omega
theorem isOf_iff {id : Int} {p : Pl} : isOf id p = true ↔ p.held = true ∧ p.id = id := by unfold isOf; simp
theorem isOf_no {id : Int} {p : Pl} (h : isOf id p = false) : p.held = true → p.id ≠ id := by
  intro h1 h2; have := isOf_iff.2 ⟨h1, h2⟩; rw [h] at this; cases this
/-- Whoever holds a slot is found there. -/
theorem fnd_of {s : Led} (hs : Inv s) {i : Nat} {id : Int} (h1 : (s.p i).held = true) (h2 : (s.p i).id = id) : fnd (isOf id) s = (i : Int) := by
  have hi : i < s.many := by
    rcases Nat.lt_or_ge i s.many with h | h
    · exact h
    · rw [hs.out i h] at h1; cases h1
  refine fnd_some hi (isOf_iff.2 ⟨h1, h2⟩) (fun j hj => ?_)
  cases hq : isOf id (s.p j)
  · rfl
  · have := isOf_iff.1 hq
    have := hs.uniq j i this.1 h1 (by rw [this.2, h2]); omega
theorem fnd_out {s : Led} (hs : Inv s) {id : Int} (h : ∀ i, (s.p i).held = true → (s.p i).id ≠ id) : fnd (isOf id) s = -1 := by
  refine fnd_none (fun i hi => ?_)
  cases hq : isOf id (s.p i)
  · rfl
  · have := isOf_iff.1 hq; exact absurd this.2 (h i this.1)
theorem fnd_out' {s : Led} (hs : Inv s) {id : Int} (h : fnd (isOf id) s < 0) : ∀ i, (s.p i).held = true → (s.p i).id ≠ id := by
  intro i h1 h2; rw [fnd_of hs h1 h2] at h; omega

/-! Take and Free keep it. -/
/-- Behind a Take that is OK. -/
theorem take_ok {s : Led} {id mem : Int} (h : takeErr s id mem = 0) : 0 ≤ id ∧ 0 ≤ mem ∧ mem ≤ s.budget ∧ fnd (isOf id) s < 0 ∧ (∃ i : Nat, fnd isFree s = (i : Int) ∧ i < s.many ∧ (s.p i).held = false ∧ (∀ j, j < i → (s.p j).held = true) ∧ takeSlot s id mem = (i : Int) ∧ takeSt s id mem = (s.put i ⟨true, id, mem⟩).uses (s.used + mem)) ∧ s.used + mem ≤ s.budget := by
  have h0 := h
  unfold takeErr at h
  split at h
  · omega
  · split at h
    · omega
    · split at h
      · omega
      · split at h
        · omega
        · rename_i h1 h2 h3 h4
          rcases fnd_cases isFree s with ⟨h5, _⟩ | ⟨i, h5, h6, h7, h8⟩
          · omega
          · refine ⟨by omega, by omega, by omega, by omega, ⟨i, h5, h6, by simpa [isFree] using h7, fun j hj => by simpa [isFree] using h8 j hj, ?_, ?_⟩, by omega⟩
            · unfold takeSlot; rw [if_pos h0, h5]
            · unfold takeSt; rw [if_pos h0, h5]; rfl
theorem take_no {s : Led} {id mem : Int} (h : takeErr s id mem ≠ 0) : takeSlot s id mem = 0 ∧ takeSt s id mem = s := by
  unfold takeSlot takeSt; rw [if_neg h, if_neg h]; exact ⟨rfl, rfl⟩
theorem inv_take {s : Led} (hs : Inv s) (id mem : Int) : Inv (takeSt s id mem) := by
  by_cases h : takeErr s id mem = 0
  · obtain ⟨a1, a2, a3, a4, ⟨i, b1, b2, b3, b4, b5, b6⟩, a5⟩ := take_ok h
    rw [b6]
    have hn := hs.free i b3
    have hold := fnd_out' hs a4
    refine ⟨hs.many, ?_, ?_, hs.big, fun k => ?_, fun k hk => ?_, fun k hk => ?_, fun j k hj hk e => ?_⟩
    · show s.used + mem = tot (upd s.p i _) s.many
      rw [tot_upd _ _ _ _ b2, hn, ← hs.used]; simp [nobody]
    · exact a5
    · show 0 ≤ (upd s.p i _ k).mem
      by_cases e : k = i
      · subst e; rw [upd_same]; exact a2
      · rw [upd_far _ _ _ e]; exact hs.mem k
    · have hk : (upd s.p i _ k).held = false := hk
      show upd s.p i _ k = nobody
      by_cases e : k = i
      · subst e; rw [upd_same] at hk; cases hk
      · rw [upd_far _ _ _ e] at hk ⊢; exact hs.free k hk
    · show upd s.p i _ k = nobody
      have : s.many ≤ k := hk
      rw [upd_far _ _ _ (by omega)]; exact hs.out k this
    · have hj : (upd s.p i ⟨true, id, mem⟩ j).held = true := hj
      have hk : (upd s.p i ⟨true, id, mem⟩ k).held = true := hk
      have e : (upd s.p i ⟨true, id, mem⟩ j).id = (upd s.p i ⟨true, id, mem⟩ k).id := e
      by_cases e1 : j = i <;> by_cases e2 : k = i
      · omega
      · subst e1; rw [upd_same, upd_far _ _ _ e2] at e; rw [upd_far _ _ _ e2] at hk; exact absurd e.symm (hold k hk)
      · subst e2; rw [upd_same, upd_far _ _ _ e1] at e; rw [upd_far _ _ _ e1] at hj; exact absurd e (hold j hj)
      · rw [upd_far _ _ _ e1, upd_far _ _ _ e2] at e; rw [upd_far _ _ _ e1] at hj; rw [upd_far _ _ _ e2] at hk; exact hs.uniq j k hj hk e
  · rw [(take_no h).2]; exact hs
theorem free_ok {s : Led} {id : Int} (h : freeErr s id = 0) : ∃ i : Nat, fnd (isOf id) s = (i : Int) ∧ i < s.many ∧ (s.p i).held = true ∧ (s.p i).id = id ∧ freeSt s id = (s.uses (s.used - (s.p i).mem)).put i nobody := by
  unfold freeErr at h
  split at h
  · omega
  · rcases fnd_cases (isOf id) s with ⟨h5, _⟩ | ⟨i, h5, h6, h7, h8⟩
    · omega
    · refine ⟨i, h5, h6, (isOf_iff.1 h7).1, (isOf_iff.1 h7).2, ?_⟩
      unfold freeSt; rw [h5, if_neg (by omega)]; rfl
theorem free_no {s : Led} {id : Int} (h : freeErr s id ≠ 0) : freeErr s id = 6 ∧ freeSt s id = s ∧ fnd (isOf id) s < 0 := by
  unfold freeErr at *
  unfold freeSt
  by_cases h1 : fnd (isOf id) s < 0
  · rw [if_pos h1, if_pos h1]; exact ⟨rfl, rfl, h1⟩
  · rw [if_neg h1] at h; exact absurd rfl h
theorem inv_free {s : Led} (hs : Inv s) (id : Int) : Inv (freeSt s id) := by
  by_cases h : freeErr s id = 0
  · obtain ⟨i, b1, b2, b3, b4, b6⟩ := free_ok h
    rw [b6]
    have hm := mem_le_tot _ hs.mem _ _ b2
    refine ⟨hs.many, ?_, ?_, hs.big, fun k => ?_, fun k hk => ?_, fun k hk => ?_, fun j k hj hk e => ?_⟩
    · show s.used - _ = tot (upd s.p i _) s.many
      rw [tot_upd _ _ _ _ b2, ← hs.used]; simp [nobody]
    · show s.used - (s.p i).mem ≤ s.budget
      have := hs.le; have := hs.mem i; omega
    · show 0 ≤ (upd s.p i _ k).mem
      by_cases e : k = i
      · subst e; rw [upd_same]; exact Int.le_refl _
      · rw [upd_far _ _ _ e]; exact hs.mem k
    · have hk : (upd s.p i _ k).held = false := hk
      show upd s.p i _ k = nobody
      by_cases e : k = i
      · subst e; rw [upd_same]
      · rw [upd_far _ _ _ e] at hk ⊢; exact hs.free k hk
    · show upd s.p i _ k = nobody
      have : s.many ≤ k := hk
      rw [upd_far _ _ _ (by omega)]; exact hs.out k this
    · have hj : (upd s.p i nobody j).held = true := hj
      have hk : (upd s.p i nobody k).held = true := hk
      have e : (upd s.p i nobody j).id = (upd s.p i nobody k).id := e
      by_cases e1 : j = i
      · subst e1; rw [upd_same] at hj; cases hj
      · by_cases e2 : k = i
        · subst e2; rw [upd_same] at hk; cases hk
        · rw [upd_far _ _ _ e1, upd_far _ _ _ e2] at e; rw [upd_far _ _ _ e1] at hj; rw [upd_far _ _ _ e2] at hk; exact hs.uniq j k hj hk e
  · rw [(free_no h).2.1]; exact hs
/-- A step of the laws: 3 is Free, all else Take. -/
def step (s : Led) (kind id mem : Int) : Led := if kind = 3 then freeSt s id else takeSt s id mem
theorem inv_step {s : Led} (hs : Inv s) (kind id mem : Int) : Inv (step s kind id mem) := by
  unfold step; split
  · exact inv_free hs id
  · exact inv_take hs id mem
theorem take_many (s : Led) (id mem : Int) : (takeSt s id mem).many = s.many := by unfold takeSt; split <;> rfl
theorem free_many (s : Led) (id : Int) : (freeSt s id).many = s.many := by unfold freeSt; split <;> rfl
theorem take_budget (s : Led) (id mem : Int) : (takeSt s id mem).budget = s.budget := by unfold takeSt; split <;> rfl
theorem free_budget (s : Led) (id : Int) : (freeSt s id).budget = s.budget := by unfold freeSt; split <;> rfl
theorem step_many (s : Led) (kind id mem : Int) : (step s kind id mem).many = s.many := by unfold step; split <;> first | exact free_many _ _ | exact take_many _ _ _
theorem step_budget (s : Led) (kind id mem : Int) : (step s kind id mem).budget = s.budget := by unfold step; split <;> first | exact free_budget _ _ | exact take_budget _ _ _
end Go.Proofs.Ytkldfjlbgmppfab.Ld
