/- The document's items and a ledger's slots tell the same: plain laws. -/
import Derived.Test.YtkldfjlbgmppfabLr
import Derived.Test.YtkldfjlbgmppfabLm
import Derived.Test.YtkldfjlbgmppfabLp3
namespace Go.Proofs.Ytkldfjlbgmppfab.Ld
set_option linter.unusedVariables false
set_option linter.unusedSimpArgs false

theorem rdi_mem {xs : List S74} {i : Nat} (h : i < xs.length) : rdi xs i ∈ xs := by
  simp [rdi, List.getD_eq_getElem?_getD, List.getElem?_eq_getElem h]

/-- The items are those that have a slot. -/
structure Rel (s : Led) (xs : List S74) : Prop where
  ins : ∀ x ∈ xs, ∃ k : Nat, x.f1 = (k : Int) ∧ k < s.many ∧ s.p k = ⟨true, x.f0, x.f2⟩
  outs : ∀ k, (s.p k).held = true → ∃ x ∈ xs, x.f1 = (k : Int)
  ids : (xs.map S74.f0).Nodup
  sum : sumM xs = s.used
  len : (xs.length : Int) + slots s = (s.many : Int)
theorem Rel.le {s : Led} {xs : List S74} (h : Rel s xs) (hs : Inv s) : xs.length ≤ 16 := by
  have := h.len; have := (slots_le hs).1; have := hs.many; omega
theorem Rel.nonneg {s : Led} {xs : List S74} (h : Rel s xs) (hs : Inv s) : ∀ x ∈ xs, 0 ≤ x.f2 := by
  intro x hx
  obtain ⟨k, h1, h2, h3⟩ := h.ins x hx
  have := hs.mem k
  rw [h3] at this; exact this
theorem sumM_pos {xs : List S74} (h : ∀ x ∈ xs, 0 ≤ x.f2) : 0 ≤ sumM xs := by
  induction xs with
  | nil => exact Int.le_refl _
  | cons x xs ih =>
    have := h x (by simp)
    have := ih (fun y hy => h y (by simp [hy]))
    simp only [sumM]; omega
theorem sumM_take {xs : List S74} (h : ∀ x ∈ xs, 0 ≤ x.f2) (i : Nat) : 0 ≤ sumM (xs.take i) ∧ sumM (xs.take i) ≤ sumM xs := by
  have h1 : sumM xs = sumM (xs.take i) + sumM (xs.drop i) := by rw [← sumM_append, List.take_append_drop]
  have h2 := sumM_pos (xs := xs.take i) (fun x hx => h x (List.mem_of_mem_take hx))
  have h3 := sumM_pos (xs := xs.drop i) (fun x hx => h x (List.mem_of_mem_drop hx))
  omega
theorem Rel.fresh (b k : Int) : Rel (fresh b k) [] := by
  refine ⟨fun x hx => (by cases hx), fun i hi => (by cases hi), List.nodup_nil, rfl, ?_⟩
  show ((0 : Nat) : Int) + ((cntFree (fun _ => nobody) (Ld.fresh b k).many : Nat) : Int) = _
  rw [cnt_all _ _ (fun _ _ => rfl)]; omega

theorem fst_some {q : S74 → Bool} {xs : List S74} {x : S74} (h : fst q xs = some x) : x ∈ xs ∧ q x = true := ⟨List.mem_of_find?_eq_some h, List.find?_some h⟩
theorem fst_no {q : S74 → Bool} {xs : List S74} (h : fst q xs = none) : ∀ x ∈ xs, q x = false := by
  intro x hx
  have := List.find?_eq_none.1 h x hx
  simpa using this
/-- A slot of an id: as the ledger tells. -/
theorem Rel.slot {s : Led} {xs : List S74} (h : Rel s xs) (hs : Inv s) (id : Int) : told S74.f1 (fst (fun x => x.f0 == id) xs) = slotI s id ∧ isIn (fst (fun x => x.f0 == id) xs) = slotB s id := by
  cases hf : fst (fun x => x.f0 == id) xs with
  | some x =>
    obtain ⟨hx, hq⟩ := fst_some hf
    obtain ⟨k, h1, h2, h3⟩ := h.ins x hx
    have hid : x.f0 = id := by simpa using hq
    have := slotB_true (fnd_of hs (i := k) (id := id) (by rw [h3]) (by rw [h3]; exact hid))
    rw [this.1, this.2]
    exact ⟨h1, rfl⟩
  | none =>
    have hno : fnd (isOf id) s < 0 := by
      have := fnd_out hs (id := id) (fun k hk he => by
        obtain ⟨x, hx, hxk⟩ := h.outs k hk
        obtain ⟨k', h1, h2, h3⟩ := h.ins x hx
        have : k' = k := by omega
        subst this
        have h4 := fst_no hf x hx
        rw [h3] at he
        have he : x.f0 = id := he
        rw [he] at h4; simp at h4)
      omega
    have := slotB_false hno
    rw [this.1, this.2]; exact ⟨rfl, rfl⟩
/-- Who has a slot: as the ledger tells. -/
theorem Rel.at {s : Led} {xs : List S74} (h : Rel s xs) (hs : Inv s) (k : Int) : told S74.f0 (fst (fun x => x.f1 == k) xs) = atI s k ∧ isIn (fst (fun x => x.f1 == k) xs) = atB s k := by
  cases hf : fst (fun x => x.f1 == k) xs with
  | some x =>
    obtain ⟨hx, hq⟩ := fst_some hf
    obtain ⟨k', h1, h2, h3⟩ := h.ins x hx
    have hk : x.f1 = k := by simpa using hq
    obtain rfl : k = (k' : Int) := by omega
    rw [atB_held hs, atI_id hs, h3]; exact ⟨rfl, rfl⟩
  | none =>
    by_cases hk : 0 ≤ k ∧ k < s.many
    · obtain ⟨i, rfl⟩ := Int.eq_ofNat_of_zero_le hk.1
      rw [atB_held hs, atI_id hs]
      cases hh : (s.p i).held
      · rw [hs.free i hh]; exact ⟨rfl, rfl⟩
      · obtain ⟨x, hx, hxk⟩ := h.outs i hh
        have := fst_no hf x hx
        rw [hxk] at this; simp at this
    · rw [(atB_out hk).1, (atB_out hk).2]; exact ⟨rfl, rfl⟩
/-- One more. -/
theorem Rel.add {s : Led} {xs : List S74} (h : Rel s xs) (hs : Inv s) {id mem : Int} {i : Nat} (hT : Took s id mem i) : Rel (takeSt s id mem) (xs ++ [⟨id, (i : Int), mem⟩]) := by
  have hp := hT.slot_put
  have hm : (takeSt s id mem).many = s.many := take_many _ _ _
  have hne : ∀ x ∈ xs, ∀ k : Nat, x.f1 = (k : Int) → k ≠ i := by
    intro x hx k hk e
    obtain ⟨k', h1, h2, h3⟩ := h.ins x hx
    have : k' = i := by omega
    subst this
    rw [hT.was] at h3
    have := congrArg Pl.held h3
    cases this
  refine ⟨fun x hx => ?_, fun k hk => ?_, ?_, ?_, ?_⟩
  · rcases List.mem_append.1 hx with hx | hx
    · obtain ⟨k, h1, h2, h3⟩ := h.ins x hx
      exact ⟨k, h1, by rw [hm]; exact h2, by rw [hp, upd_far _ _ _ (hne x hx k h1)]; exact h3⟩
    · obtain rfl := List.mem_singleton.1 hx
      exact ⟨i, rfl, by rw [hm]; exact hT.lt, by rw [hp, upd_same]⟩
  · rw [hp] at hk
    by_cases e : k = i
    · subst e; exact ⟨_, List.mem_append_right _ (List.mem_singleton.2 rfl), rfl⟩
    · rw [upd_far _ _ _ e] at hk
      obtain ⟨x, hx, hxk⟩ := h.outs k hk
      exact ⟨x, List.mem_append_left _ hx, hxk⟩
  · rw [List.map_append, List.nodup_append]
    refine ⟨h.ids, by simp, fun a ha b hb => ?_⟩
    simp only [List.map_cons, List.map_nil, List.mem_singleton] at hb
    intro e
    rw [hb] at e
    obtain ⟨x, hx, rfl⟩ := List.mem_map.1 ha
    have h2 := (h.slot hs id).2
    rw [hT.has] at h2
    cases hf : fst (fun x => x.f0 == id) xs with
    | some y => rw [hf] at h2; cases h2
    | none => have := fst_no hf x hx; rw [e] at this; simp at this
  · rw [sumM_append, h.sum, hT.used]; simp [sumM]
  · rw [List.length_append, hT.slots, hm]; have := h.len; simp only [List.length_singleton]; omega
theorem filter_gone {xs : List S74} {x : S74} (hn : (xs.map S74.f0).Nodup) (hx : x ∈ xs) : sumM (xs.filter (fun y => y.f0 != x.f0)) = sumM xs - x.f2 ∧ (xs.filter (fun y => y.f0 != x.f0)).length + 1 = xs.length := by
  induction xs with
  | nil => cases hx
  | cons a ys ih =>
    simp only [List.map_cons, List.nodup_cons] at hn
    rcases List.mem_cons.1 hx with rfl | hx
    · have hall : ys.filter (fun y => y.f0 != x.f0) = ys := by
        rw [List.filter_eq_self]
        intro y hy
        have : y.f0 ≠ x.f0 := fun e => hn.1 (e ▸ List.mem_map_of_mem hy)
        simpa using this
      rw [List.filter_cons_of_neg (by simp), hall]
      exact ⟨by simp only [sumM]; omega, rfl⟩
    · have hne : a.f0 ≠ x.f0 := fun e => hn.1 (e ▸ List.mem_map_of_mem hx)
      rw [List.filter_cons_of_pos (by simpa using hne)]
      obtain ⟨h1, h2⟩ := ih hn.2 hx
      exact ⟨by simp only [sumM]; omega, by simp only [List.length_cons]; omega⟩
/-- One less. -/
theorem Rel.drop {s : Led} {xs : List S74} (h : Rel s xs) (hs : Inv s) {id : Int} {i : Nat} (hF : Freed s id i) : Rel (freeSt s id) (xs.filter (fun y => y.f0 != id)) ∧ (xs.filter (fun y => y.f0 != id)).length + 1 = xs.length := by
  have hp := hF.slot_put
  have hm : (freeSt s id).many = s.many := free_many _ _
  obtain ⟨x, hx, hxi⟩ := h.outs i hF.was.1
  have hxp : s.p i = ⟨true, x.f0, x.f2⟩ := by
    obtain ⟨k, h1, h2, h3⟩ := h.ins x hx
    obtain rfl : k = i := by omega
    exact h3
  have hxid : x.f0 = id := by have := hF.was.2; rw [hxp] at this; exact this
  have hg := filter_gone h.ids hx
  rw [hxid] at hg
  refine ⟨⟨fun y hy => ?_, fun k hk => ?_, ?_, ?_, ?_⟩, hg.2⟩
  · have hy := List.mem_filter.1 hy
    have hne : y.f0 ≠ id := by simpa using hy.2
    obtain ⟨k, h1, h2, h3⟩ := h.ins y hy.1
    refine ⟨k, h1, by rw [hm]; exact h2, ?_⟩
    rw [hp, upd_far]
    · exact h3
    · rintro rfl
      rw [hxp] at h3
      have : x.f0 = y.f0 := congrArg Pl.id h3
      omega
  · rw [hp] at hk
    by_cases e : k = i
    · subst e; rw [upd_same] at hk; cases hk
    · rw [upd_far _ _ _ e] at hk
      obtain ⟨y, hy, hyk⟩ := h.outs k hk
      refine ⟨y, List.mem_filter.2 ⟨hy, ?_⟩, hyk⟩
      have : y.f0 ≠ id := by
        intro e2
        obtain ⟨k', h1, h2, h3⟩ := h.ins y hy
        obtain rfl : k' = k := by omega
        exact e (hs.uniq k' i hk hF.was.1 (by rw [h3, hxp]; show y.f0 = x.f0; omega))
      simpa using this
  · exact (List.Sublist.map _ (List.filter_sublist)).nodup h.ids
  · rw [hg.1, h.sum, hF.used, hxp]
  · rw [hF.slots, hm]; have := h.len; have := hg.2; omega
theorem Rel.keep {s : Led} {xs : List S74} (h : Rel s xs) (hs : Inv s) {id : Int} (hF : fnd (isOf id) s < 0) : xs.filter (fun y => y.f0 != id) = xs := by
  rw [List.filter_eq_self]
  intro y hy
  have h2 := (h.slot hs id).2
  rw [(slotB_false hF).1] at h2
  cases hf : fst (fun x => x.f0 == id) xs with
  | some z => rw [hf] at h2; cases h2
  | none => have := fst_no hf y hy; simpa using this
end Go.Proofs.Ytkldfjlbgmppfab.Ld
