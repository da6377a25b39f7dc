/- CheckFewer: a file that is right is so with fewer tasks, in any order; its operations do not matter. Numbers and lists alone. -/
import Derived.Test.YtkldfjlbgmppfaaMCheckFewerx2
import Derived.Test.YtkldfjlbgmppfaaCkMCheckFewer
namespace Go.Proofs.Ytkldfjlbgmppfaa.Pure
open Go.RowKit Go.Proofs.Ytkldfjlbgmppfaa.MCheckFewer Go.Proofs.Ytkldfjlbgmppfaa.Plain Go.Proofs.YtkldfjlbgmppfaaW.PrintWords Go.Proofs.YtkldfjlbgmppfaaW.PrintLast Go.Proofs.YtkldfjlbgmppfaaW.PrintMore

/-- What a file's tail comes to: no task is wrong, or the first one that is. -/
theorem tail_cases : ∀ (l : List S39) (i : Int), (∀ t ∈ l, okTask t = true) ∧ tail l i = (-1, 0) ∨ ∃ m, ∃ hm : m < l.length, (∀ (j : Nat) (hj : j < m), okTask l[j] = true) ∧ okTask l[m] = false ∧ tail l i = (i + m + 1, 3)
  | [], _ => .inl ⟨by simp, rfl⟩
  | t :: l, i => by
    cases ht : okTask t with
    | false => exact .inr ⟨0, by simp, by omega, ht, by rw [tail, ht]; simp⟩
    | true =>
      rcases tail_cases l (i + 1) with ⟨h, e⟩ | ⟨m, hm, h, hb, e⟩
      · refine .inl ⟨?_, by rw [tail, if_pos ht, e]⟩
        intro u hu
        rcases List.mem_cons.1 hu with rfl | hu
        · exact ht
        · exact h u hu
      · refine .inr ⟨m + 1, by simpa using hm, ?_, hb, ?_⟩
        · intro j hj
          cases j with
          | zero => exact ht
          | succ j => exact h j (by omega)
        · rw [tail, if_pos ht, e]; congr 1; omega

/-- The law's own last tests. -/
theorem ends (ok : Bool) (l L : List S39) (hl : l.length ≤ 64) (hL : L.length ≤ 64) (hmem : ∀ t, t ∈ L ↔ t ∈ l) (p : Nat) (hp : p ≤ l.length) :
    (if (file ok l).2 = 0 then (if (file ok L).2 = 0 then (if True then (if (file ok (l.take p)).2 = 0 then (some ((file ok (l.take p)).1 == (-1))) else (some false)) else (some false)) else (some false)) else (if (file ok L).2 = 0 then (some false) else (if True then (if (file ok (l.take p)).2 = 0 then (if (file ok l).1 > (p : Int) then (some true) else (some false)) else (if (file ok l).1 > (p : Int) then (some false) else (some ((file ok (l.take p)).1 == (file ok l).1)))) else (some false)))) = some true := by
  have hlt : (l.take p).length ≤ 64 := by rw [List.length_take]; omega
  cases ok with
  | false =>
    have h0 : ¬ (0 : Int) > (p : Int) := by omega
    simp [file, h0]
  | true =>
    have hf : ∀ q : List S39, q.length ≤ 64 → file true q = tail q 0 := by
      intro q hq
      have : ¬ (q.length : Int) > 64 := by omega
      simp only [file, if_true]
      rw [if_neg this]
    rw [hf l hl, hf L hL, hf _ hlt]
    rcases tail_cases l 0 with ⟨h, e⟩ | ⟨m, hm, h, hb, e⟩
    · have e1 : tail L 0 = (-1, 0) := tail_ok L 0 fun t ht => h t ((hmem t).1 ht)
      have e2 : tail (l.take p) 0 = (-1, 0) := tail_ok _ 0 fun t ht => h t (List.mem_of_mem_take ht)
      rw [e, e1, e2]
      simp
    · have e1 : (tail L 0).2 = 3 := by
        rcases tail_cases L 0 with ⟨h2, _⟩ | ⟨_, _, _, _, e2⟩
        · have := h2 l[m] ((hmem _).2 (List.getElem_mem hm))
          rw [hb] at this; cases this
        · rw [e2]
      rw [e, e1]
      by_cases hpm : p ≤ m
      · have e2 : tail (l.take p) 0 = (-1, 0) := by
          apply tail_ok
          intro t ht
          obtain ⟨j, hj, rfl⟩ := List.getElem_of_mem ht
          rw [List.length_take] at hj
          rw [List.getElem_take]
          exact h j (by omega)
        rw [e2]
        simp
        omega
      · have e2 : tail (l.take p) 0 = ((0 : Int) + m + 1, 3) := by
          refine tail_bad _ 0 m (by rw [List.length_take]; omega) ?_ ?_
          · intro j hj
            rw [List.getElem_take]
            exact h j hj
          · rw [List.getElem_take]
            exact hb
        rw [e2]
        simp
        omega

theorem turns (ok : Bool) (l : List S39) (hl : l.length ≤ 64) (a2 : Int) (a0 a1 b2 a3 a4 a5 a6 a7 a8 a9 : Int) (hok : okConfig a0 a1 b2 a3 a4 a5 a6 a7 a8 a9 = ok) : ∀ (d k : Nat) (L : List S39), d + 90 ≤ k → d ≤ l.length → L.length + d = l.length → (∀ t, t ∈ L ↔ t ∈ l.drop d) →
    millwrightlaw04_CheckFewer.l0 k l a2 true (file ok l).1 (file ok l).2 L (d : Int) a0 a1 b2 a3 a4 a5 a6 a7 a8 a9 = some true := by
  intro d
  induction d with
  | zero =>
    intro k L hk _ hL hm
    obtain ⟨k, rfl⟩ : ∃ m, k = m + 1 := ⟨k - 1, by omega⟩
    have hw : wrap64 ((l.length : Int) + 1) = ((l.length + 1 : Nat) : Int) := by unfold wrap64; omega
    simp only [millwrightlaw04_CheckFewer.l0]
    rw [if_neg (by omega), hw]
    have hp := masked_mod a2 ((l.length + 1 : Nat) : Int) (by omega)
    generalize Int.tmod (Go.bits .and .i64 a2 65535) ((l.length + 1 : Nat) : Int) = p at hp ⊢
    obtain ⟨p, rfl⟩ := Int.eq_ofNat_of_zero_le hp.1
    rw [if_neg (by omega), if_pos hp.1, if_pos (by omega), file_f k (by omega), Option.bind_some, file_f k (by omega), Option.bind_some, hok, Int.toNat_natCast]
    exact ends ok l L hl (by omega) (by simpa using hm) p (by omega)
  | succ d ih =>
    intro k L hk hd hL hm
    obtain ⟨k, rfl⟩ : ∃ m, k = m + 1 := ⟨k - 1, by omega⟩
    have hw : wrap64 (((d + 1 : Nat) : Int) - 1) = (d : Int) := by unfold wrap64; omega
    have hr : rd_T39 l (d : Int) = l[d] := by simp [rd_T39, show d < l.length by omega]
    simp only [millwrightlaw04_CheckFewer.l0]
    rw [if_pos (by omega), hw, if_pos (by omega), if_pos (by omega), if_pos (by omega), hr]
    refine ih k _ (by omega) (by omega) (by simp; omega) ?_
    intro t
    rw [List.mem_append, hm t, List.drop_eq_getElem_cons (show d < l.length by omega)]
    have e : (⟨l[d].f0, l[d].f1⟩ : S39) = l[d] := rfl
    rw [e, List.mem_singleton, List.mem_cons]
    constructor
    · rintro (h | h)
      · exact .inr h
      · exact .inl h
    · rintro (h | h)
      · exact .inr h
      · exact .inl h

/-- The plain law. -/
theorem CheckFewer (a0 a1 a2 a3 a4 a5 a6 a7 a8 a9 : Int) (l : List S39) (at_ : Int) (ops : List S30) (hm : l.length ≤ 9223372036854775807) :
    ∃ k, millwrightlaw04_CheckFewer.f k a0 a1 a2 a3 a4 a5 a6 a7 a8 a9 l at_ ops = some true := by
  refine ⟨300, ?_⟩
  unfold millwrightlaw04_CheckFewer.f
  rw [shown_any 300 (by omega), Option.bind_some]
  have hn : mn (l.length : Int) 64 = ((min l.length 64 : Nat) : Int) := by unfold mn; split <;> omega
  rw [hn, if_pos (by omega), if_pos (by omega), Option.bind_some, Int.toNat_natCast]
  generalize hy : l.take (min l.length 64) = y
  have hyl : y.length ≤ 64 := by rw [← hy, List.length_take]; omega
  rw [file_f 300 (by omega), Option.bind_some, file_f 300 (by omega), Option.bind_some, if_pos rfl]
  generalize hok : okConfig a0 a1 a2 a3 a4 a5 a6 a7 a8 a9 = ok
  have hj : ((file ok y).2 != (file ok y).2) = false := by simp
  rw [hj]
  simp only [millwrightlaw04_CheckFewer.j0]
  rw [if_neg (by decide)]
  exact turns ok y hyl at_ a0 a1 a2 a3 a4 a5 a6 a7 a8 a9 hok y.length 299 [] (by omega) (by omega) (by simp) (by simp)

end Go.Proofs.Ytkldfjlbgmppfaa.Pure
