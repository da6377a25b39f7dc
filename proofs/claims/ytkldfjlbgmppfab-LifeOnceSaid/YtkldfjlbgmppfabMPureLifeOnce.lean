/- LifeOnce: an epoch is right once: from Start on, until it does not run any more. No condition. -/
import Derived.Test.YtkldfjlbgmppfabMLifeOncex4
import Derived.Test.YtkldfjlbgmppfabLfLifeOnce
import Derived.Test.YtkldfjlbgmppfabPlain
namespace Go.Proofs.Ytkldfjlbgmppfab.Pure
open Go.RowKit Go.Proofs.Ytkldfjlbgmppfab.MLifeOnce Go.Proofs.Ytkldfjlbgmppfab.Plain Go.Proofs.YtkldfjlbgmppfabW.PrintWords Go.Proofs.YtkldfjlbgmppfabW.PrintLast Go.Proofs.YtkldfjlbgmppfabW.PrintMore

theorem shown_any (k : Nat) (hk : 90 ≤ k) : millwrightlaw09_shown.f k = some true := at_rounds millwrightlaw09_shown.mono hk (by decide +kernel)

/-- A step leaves the epoch (and lets nobody run who did not), or begins the next one. -/
def Once (s e : Int) (x : Int × Int × Int × Int × Int × Int × Int) : Prop := (0 ≤ x.2.1 ∧ x.2.1 ≤ 7) ∧ ((x.2.2.1 = e ∧ (x.2.1 = 2 → s = 2)) ∨ (x.2.2.1 = e + 1 ∧ x.2.1 = 2))
theorem Once.ite {s e : Int} {c : Prop} [Decidable c] {x y : Int × Int × Int × Int × Int × Int × Int} (h : c → Once s e x) (g : ¬ c → Once s e y) : Once s e (if c then x else y) := by
  by_cases hc : c
  · rw [if_pos hc]; exact h hc
  · rw [if_neg hc]; exact g hc
theorem Once.mk {s e a s' e' m p t r : Int} (h : (0 ≤ s' ∧ s' ≤ 7) ∧ ((e' = e ∧ (s' = 2 → s = 2)) ∨ (e' = e + 1 ∧ s' = 2))) : Once s e (a, s', e', m, p, t, r) := h

theorem act_once (a s e m p t r : Int) (h : 0 ≤ s ∧ s ≤ 7) (he : 0 ≤ e ∧ e ≤ 300) : Once s e (act a s e m p t r) := by
  have hw : wrap64 (e + 1) = e + 1 := by unfold wrap64; omega
  unfold act
  repeat' (refine Once.ite (fun _ => ?_) (fun _ => ?_))
  all_goals first | exact Once.mk (by omega) | exact Once.mk (by split <;> omega)

theorem wrap_int {z : Int} (h : -10 ≤ z ∧ z ≤ 1000) : wrap64 (z + 1) = z + 1 := by unfold wrap64; omega

/-- The inner loop: of all epochs that one is right, if it runs. -/
theorem inner (l : List Int) (over e m p t r s : Int) (i : Int) (runs : Bool) (hr : runs = decide (s = 2)) (he : 0 ≤ e ∧ e ≤ 301) (C : Nat) (hrest : ∀ k, C ≤ k → millwrightlaw09_LifeOnce.l0 k l true over (wrap64 (i + 1)) s e m p t r = some true) :
    ∀ (d k : Nat) (z : Int), z + d = e + 2 → -1 ≤ z → C + d + 1 ≤ k → millwrightlaw09_LifeOnce.l1 k l true over i e runs z s e m p t r = some true := by
  intro d
  induction d with
  | zero =>
    intro k z hz h0 hk
    obtain ⟨k, rfl⟩ : ∃ m, k = m + 1 := ⟨k - 1, by omega⟩
    simp only [millwrightlaw09_LifeOnce.l1]
    rw [wrap_int (by omega), if_neg (by omega)]
    exact hrest k (by omega)
  | succ d ih =>
    intro k z hz h0 hk
    obtain ⟨k, rfl⟩ : ∃ m, k = m + 1 := ⟨k - 1, by omega⟩
    have hih := ih k (z + 1) (by omega) (by omega) (by omega)
    simp only [millwrightlaw09_LifeOnce.l1]
    rw [wrap_int (z := e) (by omega), wrap_int (z := z) (by omega), if_pos (by omega)]
    unfold life_Life_Right.f
    by_cases hs : s = 2
    · have hb : runs = true := by rw [hr]; simp [hs]
      rw [hb] at hih ⊢
      rw [if_pos hs]
      by_cases hz2 : z = e
      · rw [if_pos hz2, Option.bind_some]
        simp only [if_true]
        rw [if_pos hz2]
        exact hih
      · rw [if_neg hz2, Option.bind_some]
        simp only [if_true]
        rw [if_neg (show ¬ ((7 : Int) = 0) by decide), if_neg hz2]
        exact hih
    · have hb : runs = false := by rw [hr]; simp [hs]
      rw [hb] at hih ⊢
      rw [if_neg hs, Option.bind_some, if_neg (show ¬ (false = true) by decide)]
      simp only
      rw [if_neg (show ¬ ((7 : Int) = 0) by decide)]
      exact hih

theorem loop (l : List Int) : ∀ (d k i : Nat) (over s e m p t r : Int), (0 ≤ s ∧ s ≤ 7) → (0 ≤ e ∧ e ≤ i) → over ≤ e → (s = 2 → over < e) → i + d = 300 → d * 400 + 100 ≤ k → i ≤ l.length → millwrightlaw09_LifeOnce.l0 k l true over (i : Int) s e m p t r = some true := by
  intro d
  induction d with
  | zero =>
    intro k i over s e m p t r h he ho hr hi hk hil
    obtain ⟨k, rfl⟩ : ∃ m, k = m + 1 := ⟨k - 1, by omega⟩
    have hd : decide ((i : Int) < 300) = false := by simp; omega
    simp only [millwrightlaw09_LifeOnce.l0]
    rw [hd]
    obtain ⟨k, rfl⟩ : ∃ m, k = m + 1 := ⟨k - 1, by omega⟩
    have hj : millwrightlaw09_LifeOnce.j1 (k + 1) l true over (i : Int) false s e m p t r = some true := by
      simp only [millwrightlaw09_LifeOnce.j1]
      rw [if_neg (by decide)]
    rw [hj]
    simp
  | succ d ih =>
    intro k i over s e m p t r h he ho hr hi hk hil
    obtain ⟨k, rfl⟩ : ∃ m, k = m + 3 := ⟨k - 3, by omega⟩
    simp only [millwrightlaw09_LifeOnce.l0]
    by_cases c : (i : Int) < (l.length : Int)
    · have hd : decide ((i : Int) < 300) = true := by simp; omega
      rw [if_pos c, hd]
      simp only [millwrightlaw09_LifeOnce.j1]
      rw [if_pos True.intro, if_pos (by omega), if_pos c, does_f _ (by omega) _ _ _ _ _ _ _ h, Option.bind_some]
      have hx := act_once (wrap64 (Int.tmod (rd l i) 11)) s e m p t r h (by omega)
      generalize act (wrap64 (Int.tmod (rd l i) 11)) s e m p t r = x at hx ⊢
      obtain ⟨x0, s', e', m', p', t', r'⟩ := x
      obtain ⟨hs', hx⟩ := hx
      simp only at hs' hx
      simp only [life_Life_Epoch.f, life_Life_State.f, Option.bind_some]
      have hw : wrap64 ((i : Int) + 1) = ((i + 1 : Nat) : Int) := wrap_next (show i < 300 by omega) (by omega)
      have hrest : ∀ over', over' ≤ e' → (s' = 2 → over' < e') → ∀ k, d * 400 + 100 ≤ k → millwrightlaw09_LifeOnce.l0 k l true over' (wrap64 ((i : Int) + 1)) s' e' m' p' t' r' = some true := by
        intro over' h1 h2 k hk'
        rw [hw]
        exact ih k (i + 1) over' s' e' m' p' t' r' hs' (by omega) h1 h2 (by omega) hk' (by omega)
      by_cases hs2 : s' = 2
      · have hd2 : decide (e' ≤ over) = false := by simp; omega
        rw [if_pos hs2, if_neg (by omega), hd2]
        simp only [millwrightlaw09_LifeOnce.j2]
        rw [if_neg (by decide)]
        exact inner l over e' m' p' t' r' s' i true (by simp [hs2]) (by omega) (d * 400 + 100) (hrest over (by omega) (by omega)) (e' + 3).toNat k (-1) (by omega) (by omega) (by omega)
      · rw [if_neg hs2, if_neg (by omega)]
        simp only [millwrightlaw09_LifeOnce.j4]
        rw [if_neg (by decide)]
        exact inner l e' e' m' p' t' r' s' i false (by simp [hs2]) (by omega) (d * 400 + 100) (hrest e' (by omega) (by omega)) (e' + 3).toNat k (-1) (by omega) (by omega) (by omega)
    · rw [if_neg c]
      simp only [millwrightlaw09_LifeOnce.j1]
      rw [if_neg (by decide)]

/-- An epoch is right once: from Start on, until it does not run any more. -/
theorem LifeOnce : millwrightlaw09_LifeOnce.Pure := by
  intro a0 a1 l _ _ _ _ _
  obtain ⟨k, hk⟩ : ∃ k : Nat, k = 120200 := ⟨_, rfl⟩
  refine ⟨k, ?_⟩
  unfold millwrightlaw09_LifeOnce.f
  rw [shown_any k (by omega), Option.bind_some]
  simp only [life_New.f, Option.bind_some]
  exact loop l 300 k 0 _ _ _ _ _ _ _ (by omega) (by omega) (by omega) (by omega) (by omega) (by omega) (by omega)

end Go.Proofs.Ytkldfjlbgmppfab.Pure
