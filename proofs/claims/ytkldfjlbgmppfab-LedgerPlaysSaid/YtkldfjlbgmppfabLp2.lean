/- What is behind a Take, and a Free: plain laws. -/
import Derived.Test.YtkldfjlbgmppfabLp
namespace Go.Proofs.Ytkldfjlbgmppfab.Ld
set_option linter.unusedVariables false
set_option linter.unusedSimpArgs false

theorem i64_range {a : Int} (h : (Go.Lit.int .i64 a).wf = true) : -9223372036854775808 ≤ a ∧ a ≤ 9223372036854775807 := by
  have h : (decide ((-9223372036854775808 : Int) ≤ a) && decide (a ≤ 9223372036854775807)) = true := h
  simpa using h
theorem slotB_true {s : Led} {id : Int} {i : Nat} (h : fnd (isOf id) s = (i : Int)) : slotB s id = true ∧ slotI s id = (i : Int) := by
  unfold slotB slotI; rw [h]; exact ⟨decide_eq_true (by omega), if_neg (by omega)⟩
theorem slotB_false {s : Led} {id : Int} (h : fnd (isOf id) s < 0) : slotB s id = false ∧ slotI s id = 0 := by
  unfold slotB slotI; exact ⟨decide_eq_false (by omega), if_pos h⟩
theorem slotB_iff {s : Led} {id : Int} : slotB s id = true ↔ 0 ≤ fnd (isOf id) s := by unfold slotB; simp
theorem freeErr_iff {s : Led} {id : Int} : freeErr s id = 0 ↔ slotB s id = true := by
  rw [slotB_iff]; unfold freeErr
  split <;> omega
theorem put_p (s : Led) (i : Nat) (x : Pl) (k : Nat) : (s.put i x).p k = if k = i then x else s.p k := rfl
theorem slots_put {s : Led} {i : Nat} (x : Pl) (h : i < s.many) : slots (s.put i x) + (if (s.p i).held then 0 else 1) = slots s + (if x.held then 0 else 1) := by
  have := cnt_upd s.p i x s.many h
  show ((cntFree (upd s.p i x) s.many : Nat) : Int) + _ = (cntFree s.p s.many : Int) + _
  split <;> split <;> simp_all <;> omega
theorem slots_uses (s : Led) (n : Int) : slots (s.uses n) = slots s := rfl
theorem slots_le {s : Led} (hs : Inv s) : 0 ≤ slots s ∧ slots s ≤ 16 := by
  have := cntFree_le s.p s.many; have := hs.many; unfold slots; omega

/-- All that is known behind a Take that is OK, at slot 'i'. -/
structure Took (s : Led) (id mem : Int) (i : Nat) : Prop where
  has : slotB s id = false
  slot : takeSlot s id mem = (i : Int)
  lt : i < s.many
  was : s.p i = nobody
  low : ∀ j, j < i → (s.p j).held = true
  st : takeSt s id mem = (s.put i ⟨true, id, mem⟩).uses (s.used + mem)
  id0 : 0 ≤ id
  mem0 : 0 ≤ mem
  room : s.used + mem ≤ s.budget
  isThere : slotB (takeSt s id mem) id = true ∧ slotI (takeSt s id mem) id = (i : Int)
  used : (takeSt s id mem).used = s.used + mem
  slots : slots (takeSt s id mem) = slots s - 1
theorem took {s : Led} (hs : Inv s) {id mem : Int} (h : takeErr s id mem = 0) : ∃ i, Took s id mem i := by
  obtain ⟨a1, a2, a3, a4, ⟨i, b1, b2, b3, b4, b5, b6⟩, a5⟩ := take_ok h
  refine ⟨i, (slotB_false a4).1, b5, b2, hs.free i b3, b4, b6, a1, a2, a5, ?_, ?_, ?_⟩
  · have hs' := inv_take hs id mem
    rw [b6] at hs' ⊢
    refine slotB_true (fnd_of hs' ?_ ?_)
    · show (upd s.p i _ i).held = true; rw [upd_same]
    · show (upd s.p i _ i).id = id; rw [upd_same]
  · rw [b6]; rfl
  · rw [b6, slots_uses]
    have := slots_put (s := s) (i := i) ⟨true, id, mem⟩ b2
    rw [b3] at this; simp at this; omega
/-- All that is known behind a Free that is OK, of slot 'i'. -/
structure Freed (s : Led) (id : Int) (i : Nat) : Prop where
  lt : i < s.many
  was : (s.p i).held = true ∧ (s.p i).id = id
  st : freeSt s id = (s.uses (s.used - (s.p i).mem)).put i nobody
  used : (freeSt s id).used = s.used - (s.p i).mem
  slots : slots (freeSt s id) = slots s + 1
  slot : slotI s id = (i : Int)
theorem freed {s : Led} (hs : Inv s) {id : Int} (h : freeErr s id = 0) : ∃ i, Freed s id i := by
  obtain ⟨i, b1, b2, b3, b4, b6⟩ := free_ok h
  refine ⟨i, b2, ⟨b3, b4⟩, b6, by rw [b6]; rfl, ?_, (slotB_true b1).2⟩
  rw [b6]
  have := slots_put (s := s.uses (s.used - (s.p i).mem)) (i := i) nobody b2
  rw [show ((s.uses (s.used - (s.p i).mem)).p i).held = true from b3, slots_uses] at this
  simp [nobody] at this; exact this
theorem atB_in {s : Led} {i : Nat} (h : i < s.many) : atB s (i : Int) = (s.p i).held ∧ atI s (i : Int) = (s.p i).id := by
  unfold atB atI; rw [if_pos ⟨by omega, by omega⟩, if_pos ⟨by omega, by omega⟩]; exact ⟨rfl, rfl⟩
theorem atB_out {s : Led} {k : Int} (h : ¬ (0 ≤ k ∧ k < s.many)) : atB s k = false ∧ atI s k = 0 := by
  unfold atB atI; rw [if_neg h, if_neg h]; exact ⟨rfl, rfl⟩

/-- Who takes and frees changes nothing. -/
theorem took_freed {s : Led} (hs : Inv s) {id mem : Int} {i : Nat} (h : Took s id mem i) : freeErr (takeSt s id mem) id = 0 ∧ atB (freeSt (takeSt s id mem) id) (i : Int) = false ∧ (freeSt (takeSt s id mem) id).used = s.used ∧ slots (freeSt (takeSt s id mem) id) = slots s := by
  have hs' := inv_take hs id mem
  have e0 := freeErr_iff.2 h.isThere.1
  obtain ⟨k, hk⟩ := freed hs' e0
  have hki : k = i := by have := hk.slot; rw [h.isThere.2] at this; omega
  subst hki
  have hm : (takeSt s id mem).many = s.many := take_many s id mem
  refine ⟨e0, ?_, ?_, ?_⟩
  · have hlt : k < (freeSt (takeSt s id mem) id).many := by rw [free_many, hm]; exact h.lt
    rw [(atB_in hlt).1, hk.st]
    show (upd _ k nobody k).held = false
    rw [upd_same]; rfl
  · rw [hk.used, h.used, h.st]
    show s.used + mem - (upd s.p k _ k).mem = s.used
    rw [upd_same]; simp
  · rw [hk.slots, h.slots]; omega

theorem atB_held {s : Led} (hs : Inv s) (k : Nat) : atB s (k : Int) = (s.p k).held := by
  by_cases h : k < s.many
  · exact (atB_in h).1
  · rw [(atB_out (by omega)).1, hs.out k (by omega)]; rfl
theorem atI_id {s : Led} (hs : Inv s) (k : Nat) : atI s (k : Int) = (s.p k).id := by
  by_cases h : k < s.many
  · exact (atB_in h).2
  · rw [(atB_out (by omega)).2, hs.out k (by omega)]; rfl
/-- Whoever holds a slot may be freed; nobody else is touched. -/
theorem empties {s : Led} (hs : Inv s) {k : Nat} (h : (s.p k).held = true) : freeErr s (s.p k).id = 0 ∧ ∀ m, ((freeSt s (s.p k).id).p m).held = true → (s.p m).held = true ∧ m ≠ k := by
  have e0 : freeErr s (s.p k).id = 0 := freeErr_iff.2 (slotB_true (fnd_of hs h rfl)).1
  obtain ⟨i, hf⟩ := freed hs e0
  have hik : i = k := hs.uniq i k hf.was.1 h hf.was.2
  subst hik
  refine ⟨e0, fun m hm => ?_⟩
  rw [hf.st] at hm
  have hm : (upd s.p i nobody m).held = true := hm
  by_cases e : m = i
  · subst e; rw [upd_same] at hm; cases hm
  · rw [upd_far _ _ _ e] at hm; exact ⟨hm, e⟩
/-- A ledger that nobody is in. -/
theorem empty_led {s : Led} (hs : Inv s) (h : ∀ i, i < 16 → (s.p i).held = false) : s.used = 0 ∧ slots s = (s.many : Int) ∧ takeSlot s 7 s.budget = 0 ∧ (0 < s.many → takeErr s 7 s.budget = 0) ∧ (s.many = 0 → takeErr s 7 s.budget = 4) := by
  have hno : ∀ i, s.p i = nobody := fun i => by
    by_cases hi : i < 16
    · exact hs.free i (h i hi)
    · exact hs.out i (by have := hs.many; omega)
  have hu : s.used = 0 := by rw [hs.used]; exact tot_zero _ _ (fun i _ => by rw [hno i]; rfl)
  have hf : fnd (isOf 7) s = -1 := fnd_none (fun i _ => by rw [hno i]; rfl)
  have hb : 0 ≤ s.budget := by have := hs.le; omega
  have hE : takeErr s 7 s.budget = if fnd isFree s < 0 then 4 else 0 := by
    unfold takeErr
    rw [if_neg (by omega), if_neg (by omega), hf, if_neg (by omega), hu]
    by_cases h1 : fnd isFree s < 0
    · rw [if_pos (.inl h1), if_pos h1]
    · rw [if_neg (by omega), if_neg h1]
  have hpos : 0 < s.many → fnd isFree s = ((0 : Nat) : Int) := fun hm => fnd_some hm (by rw [hno 0]; rfl) (fun j hj => by omega)
  have hzero : s.many = 0 → fnd isFree s = -1 := fun hm => fnd_none (fun i hi => by omega)
  refine ⟨hu, ?_, ?_, ?_, ?_⟩
  · unfold slots; rw [cnt_all _ _ (fun i _ => by rw [hno i]; rfl)]
  · by_cases h0 : takeErr s 7 s.budget = 0
    · unfold takeSlot
      rw [if_pos h0]
      rcases Nat.eq_zero_or_pos s.many with hm | hm
      · rw [hE, hzero hm] at h0; simp at h0
      · rw [hpos hm]; rfl
    · exact (take_no h0).1
  · intro hm; rw [hE, hpos hm]; rfl
  · intro hm; rw [hE, hzero hm]; rfl
theorem fresh_many (b k : Int) : ((fresh b k).many : Int) = if 16 < Ld.pos k then 16 else Ld.pos k := by
  have := pos_nonneg k
  show (((if 16 < Ld.pos k then 16 else Ld.pos k).toNat : Nat) : Int) = _
  split <;> omega
end Go.Proofs.Ytkldfjlbgmppfab.Ld
