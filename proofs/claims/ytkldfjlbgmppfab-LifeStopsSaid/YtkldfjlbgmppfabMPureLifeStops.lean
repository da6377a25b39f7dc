/- LifeStops: a task is stopped as often as it may be, and no more; a stop is no miss. No condition. -/
import Derived.Test.YtkldfjlbgmppfabMLifeStopsx2
import Derived.Test.YtkldfjlbgmppfabLfLifeStops
import Derived.Test.YtkldfjlbgmppfabPlain
namespace Go.Proofs.Ytkldfjlbgmppfab.Pure
open Go.RowKit Go.Proofs.Ytkldfjlbgmppfab.MLifeStops Go.Proofs.Ytkldfjlbgmppfab.Plain Go.Proofs.YtkldfjlbgmppfabW.PrintWords Go.Proofs.YtkldfjlbgmppfabW.PrintLast Go.Proofs.YtkldfjlbgmppfabW.PrintMore

theorem shown_any (k : Nat) (hk : 90 ≤ k) : millwrightlaw09_shown.f k = some true := at_rounds millwrightlaw09_shown.mono hk (by decide +kernel)

theorem loop (n : Nat) (hn : n ≤ 50) : ∀ (d k i : Nat), i + d = n → d + 25 ≤ k → millwrightlaw09_LifeStops.l0 k (n : Int) true (i : Int) 1 (i : Int) 0 (i : Int) 1 (n : Int) = some true := by
  intro d
  induction d with
  | zero =>
    intro k i hi hk
    obtain ⟨k, rfl⟩ : ∃ m, k = m + 1 := ⟨k - 1, by omega⟩
    obtain rfl : i = n := by omega
    have hw : wrap64 ((i : Int) + 1) = ((i + 1 : Nat) : Int) := by unfold wrap64; omega
    simp only [millwrightlaw09_LifeStops.l0]
    rw [if_neg (by omega), if_pos True.intro, Start_f k (by omega) _ _ _ _ _ _ (by omega), if_pos (rfl : (1 : Int) = 1), Option.bind_some]
    simp only [if_true]
    rw [Stop_f k (by omega) _ _ _ _ _ _ (by omega), if_pos (rfl : (2 : Int) = 2), if_pos (show (i : Int) ≥ (i : Int) by omega), Option.bind_some]
    simp [life_Life_State.f, life_Life_Stopped.f, life_Life_Missed.f, life_Life_Epoch.f]
  | succ d ih =>
    intro k i hi hk
    obtain ⟨k, rfl⟩ : ∃ m, k = m + 1 := ⟨k - 1, by omega⟩
    have hw := wrap_next (show i < n by omega) (show n ≤ 1000 by omega)
    simp only [millwrightlaw09_LifeStops.l0]
    rw [if_pos (by omega), Start_f k (by omega) _ _ _ _ _ _ (by omega), if_pos (rfl : (1 : Int) = 1), Option.bind_some]
    simp only [if_true]
    rw [Stop_f k (by omega) _ _ _ _ _ _ (by omega), if_pos (rfl : (2 : Int) = 2), if_neg (show ¬ ((i : Int) ≥ (n : Int)) by omega), Option.bind_some, hw]
    simp only [if_true, life_Life_State.f, life_Life_Stopped.f, Option.bind_some]
    exact ih k (i + 1) (by omega) (by omega)

/-- A task is stopped as often as it may be, and no more. -/
theorem LifeStops : millwrightlaw09_LifeStops.Pure := by
  intro a0 _
  refine ⟨200, ?_⟩
  unfold millwrightlaw09_LifeStops.f
  rw [shown_any 200 (by omega), Option.bind_some]
  have hm := masked_mod a0 51 (by omega)
  generalize Int.tmod (Go.bits .and .i64 a0 65535) 51 = t at hm ⊢
  obtain ⟨n, rfl⟩ := Int.eq_ofNat_of_zero_le hm.1
  have h1 : mx (n : Int) 0 = (n : Int) := by unfold mx; split <;> omega
  have h2 : mx 1 1 = 1 := by decide
  simp only [life_New.f, Option.bind_some]
  rw [h1, h2, Want_f 200 (by omega) _ _ _ _ _ _ (by omega), Option.bind_some]
  simp only [if_true]
  exact loop n (by omega) n 200 0 (by omega) (by omega)

end Go.Proofs.Ytkldfjlbgmppfab.Pure
