/- LifeTells: what becomes of a task is what the document says. No condition. -/
import Derived.Test.YtkldfjlbgmppfabMLifeTellsx5
import Derived.Test.YtkldfjlbgmppfabLfLifeTells
import Derived.Test.YtkldfjlbgmppfabPlain
namespace Go.Proofs.Ytkldfjlbgmppfab.Pure
open Go.RowKit Go.Proofs.Ytkldfjlbgmppfab.MLifeTells Go.Proofs.Ytkldfjlbgmppfab.Plain Go.Proofs.YtkldfjlbgmppfabW.PrintWords Go.Proofs.YtkldfjlbgmppfabW.PrintLast Go.Proofs.YtkldfjlbgmppfabW.PrintMore

theorem shown_any (k : Nat) (hk : 90 ≤ k) : millwrightlaw09_shown.f k = some true := at_rounds millwrightlaw09_shown.mono hk (by decide +kernel)

/-- The document's answer, of a step's outcome. -/
def ofAct (x : Int × Int × Int × Int × Int × Int × Int) : Int × Int × Int × Int × Int × Int × Int := (x.2.2.2.2.2.1, x.2.2.2.2.2.2, x.2.1, x.2.2.1, x.2.2.2.1, x.2.2.2.2.1, x.1)

theorem eleven {a : Int} (h : 0 ≤ a ∧ a ≤ 10) : a = 0 ∨ a = 1 ∨ a = 2 ∨ a = 3 ∨ a = 4 ∨ a = 5 ∨ a = 6 ∨ a = 7 ∨ a = 8 ∨ a = 9 ∨ a = 10 := by omega

theorem ref_do (k : Nat) (hk : 5 ≤ k) (a s e m p t r : Int) (ha : 0 ≤ a ∧ a ≤ 10) (h : 0 ≤ s ∧ s ≤ 7) : millwrightref09_Do.f k t r s e m p a = some (ofAct (act a s e m p t r)) := by
  obtain ⟨k, rfl⟩ : ∃ m, k = m + 1 := ⟨k - 1, by omega⟩
  by_cases d : p ≥ r
  all_goals by_cases g : wrap64 (m + 1) ≥ t
  all_goals rcases eleven ha with rfl | rfl | rfl | rfl | rfl | rfl | rfl | rfl | rfl | rfl | rfl
  all_goals rcases eight h with rfl | rfl | rfl | rfl | rfl | rfl | rfl | rfl
  all_goals simp [millwrightref09_Do.f, millwrightref09_Do.j0, millwrightref09_from.f, millwrightref09_from.j0, act, ofAct, d, g]

theorem step_range {l : List Int} (hw : ∀ x ∈ l, (Lit.int .u8 x).wf = true) {i : Nat} (hi : i < l.length) : 0 ≤ wrap64 (Int.tmod (rd l (i : Int)) 11) ∧ wrap64 (Int.tmod (rd l (i : Int)) 11) ≤ 10 := by
  have hr : rd l (i : Int) = l[i] := by simp [rd, hi]
  have hx := hw l[i] (List.getElem_mem hi)
  have hb : 0 ≤ l[i] := by
    simp [Lit.wf, IntKind.min, IntKind.max, IntKind.signed, IntKind.bits] at hx
    omega
  rw [hr, Int.tmod_eq_emod_of_nonneg hb]
  unfold wrap64
  omega

/-- All tests behind a step. -/
theorem tests (l : List Int) (a3 : Int) (i : Int) (x0 s e m p t r : Int) (k : Nat) (q : Int) (hq : q = if s = 2 then (if e = a3 then 0 else 7) else 7)
    (hrest : millwrightlaw09_LifeTells.l0 k l a3 true (wrap64 (i + 1)) s e m p t r t r s e m p = some true) :
    millwrightlaw09_LifeTells.j3 (k + 1) l a3 true i x0 x0 q s e m p t r t r s e m p = some true := by
  have hright : life_Life_Right.f s e m p t r a3 = some (q, s, e, m, p, t, r) := by
    unfold life_Life_Right.f
    by_cases h : s = 2
    · by_cases h2 : e = a3
      · rw [hq, if_pos h, if_pos h, if_pos h2.symm, if_pos h2]
      · rw [hq, if_pos h, if_pos h, if_neg (fun h3 => h2 h3.symm), if_neg h2]
    · rw [hq, if_neg h, if_neg h]
  simp only [millwrightlaw09_LifeTells.j3, life_Life_State.f, life_Life_Epoch.f, life_Life_Missed.f, life_Life_Stopped.f, life_Life_Final.f, Option.bind_some, if_true, hright, hrest]
  by_cases h : s ≥ 5
  · simp [h]
  · simp [h]

theorem loop (l : List Int) (hw : ∀ x ∈ l, (Lit.int .u8 x).wf = true) (a3 : Int) : ∀ (d k i : Nat) (s e m p t r : Int), (0 ≤ s ∧ s ≤ 7) → i + d = 300 → d * 4 + 40 ≤ k → i ≤ l.length → millwrightlaw09_LifeTells.l0 k l a3 true (i : Int) s e m p t r t r s e m p = some true := by
  intro d
  induction d with
  | zero =>
    intro k i s e m p t r h hi hk hil
    obtain ⟨k, rfl⟩ : ∃ m, k = m + 1 := ⟨k - 1, by omega⟩
    have hd : decide ((i : Int) < 300) = false := by simp; omega
    simp only [millwrightlaw09_LifeTells.l0]
    rw [hd]
    obtain ⟨k, rfl⟩ : ∃ m, k = m + 1 := ⟨k - 1, by omega⟩
    have hj : millwrightlaw09_LifeTells.j1 (k + 1) l a3 true (i : Int) false s e m p t r t r s e m p = some true := by
      simp only [millwrightlaw09_LifeTells.j1]
      rw [if_neg (by decide)]
    rw [hj]
    simp
  | succ d ih =>
    intro k i s e m p t r h hi hk hil
    obtain ⟨k, rfl⟩ : ∃ m, k = m + 1 := ⟨k - 1, by omega⟩
    simp only [millwrightlaw09_LifeTells.l0]
    obtain ⟨k, rfl⟩ : ∃ m, k = m + 1 := ⟨k - 1, by omega⟩
    by_cases c : (i : Int) < (l.length : Int)
    · have hd : decide ((i : Int) < 300) = true := by simp; omega
      rw [if_pos c, hd]
      simp only [millwrightlaw09_LifeTells.j1]
      rw [if_pos True.intro, if_pos (by omega), if_pos c, does_f _ (by omega) _ _ _ _ _ _ _ h, Option.bind_some, ref_do _ (by omega) _ _ _ _ _ _ _ (step_range hw (by omega)) h, Option.bind_some]
      have hx := act_range (wrap64 (Int.tmod (rd l i) 11)) s e m p t r h
      generalize act (wrap64 (Int.tmod (rd l i) 11)) s e m p t r = x at hx ⊢
      obtain ⟨x0, s', e', m', p', t', r'⟩ := x
      have hs' : 0 ≤ s' ∧ s' ≤ 7 := hx
      rw [show ofAct (x0, s', e', m', p', t', r') = (t', r', s', e', m', p', x0) from rfl]
      have hw' : wrap64 ((i : Int) + 1) = ((i + 1 : Nat) : Int) := wrap_next (show i < 300 by omega) (by omega)
      obtain ⟨k, rfl⟩ : ∃ m, k = m + 2 := ⟨k - 2, by omega⟩
      have hrest : millwrightlaw09_LifeTells.l0 k l a3 true (wrap64 ((i : Int) + 1)) s' e' m' p' t' r' t' r' s' e' m' p' = some true := by
        rw [hw']
        exact ih k (i + 1) s' e' m' p' t' r' hs' (by omega) (by omega) (by omega)
      by_cases hs2 : s' = 2
      · rw [if_pos hs2]
        simp only [millwrightlaw09_LifeTells.j2]
        by_cases he : e' = a3
        · rw [if_pos (by simp [he])]
          exact tests l a3 i x0 s' e' m' p' t' r' k 0 (by rw [if_pos hs2, if_pos he]) hrest
        · rw [if_neg (by simp [he])]
          exact tests l a3 i x0 s' e' m' p' t' r' k 7 (by rw [if_pos hs2, if_neg he]) hrest
      · rw [if_neg hs2]
        simp only [millwrightlaw09_LifeTells.j2]
        rw [if_neg (by decide)]
        exact tests l a3 i x0 s' e' m' p' t' r' k 7 (by rw [if_neg hs2]) hrest
    · rw [if_neg c]
      simp only [millwrightlaw09_LifeTells.j1]
      rw [if_neg (by decide)]

/-- What becomes of a task is what the document says. -/
theorem LifeTells : millwrightlaw09_LifeTells.Pure := by
  intro a0 a1 l a3 _ _ _ _ hw _
  obtain ⟨k, hk⟩ : ∃ k : Nat, k = 2000 := ⟨_, rfl⟩
  refine ⟨k, ?_⟩
  unfold millwrightlaw09_LifeTells.f
  rw [shown_any k (by omega), Option.bind_some]
  simp only [life_New.f, millwrightref09_New.f, Option.bind_some]
  exact loop l hw a3 300 k 0 _ _ _ _ _ _ (by omega) (by omega) (by omega) (by omega)

end Go.Proofs.Ytkldfjlbgmppfab.Pure
