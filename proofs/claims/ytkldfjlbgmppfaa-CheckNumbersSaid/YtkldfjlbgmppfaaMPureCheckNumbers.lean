/- CheckNumbers: a config that is right, of which one number is turned, is right just if that number is in its bounds. No condition. -/
import Derived.Test.YtkldfjlbgmppfaaMCheckNumbersx2
import Derived.Test.YtkldfjlbgmppfaaCkMCheckNumbers
namespace Go.Proofs.Ytkldfjlbgmppfaa.Pure
open Go.RowKit Go.Proofs.Ytkldfjlbgmppfaa.MCheckNumbers Go.Proofs.Ytkldfjlbgmppfaa.Plain Go.Proofs.YtkldfjlbgmppfaaW.PrintWords Go.Proofs.YtkldfjlbgmppfaaW.PrintLast

/-- What the two joins tell. -/
theorem j0_tells (k : Nat) (hk : 80 ≤ k) (n least most a0 a1 a2 a3 a4 a5 a6 a7 a8 a9 : Int) (h : okConfig a0 a1 a2 a3 a4 a5 a6 a7 a8 a9 = (decide (least ≤ n) && decide (n ≤ most))) :
    millwrightlaw04_CheckNumbers.j0 (k + 2) n true least most a0 a1 a2 a3 a4 a5 a6 a7 a8 a9 = some true := by
  simp only [millwrightlaw04_CheckNumbers.j0]
  by_cases h1 : n < least
  · have hf : okConfig a0 a1 a2 a3 a4 a5 a6 a7 a8 a9 = false := by
      rw [h]; have : ¬ least ≤ n := by omega
      simp [this]
    rw [if_pos h1]
    simp only [millwrightlaw04_CheckNumbers.j1]
    rw [file_f k hk, config_f k (by omega), hf]
    simp [err, file]
  · rw [if_neg h1]
    by_cases h2 : n > most
    · have hf : okConfig a0 a1 a2 a3 a4 a5 a6 a7 a8 a9 = false := by
        rw [h]; have : ¬ n ≤ most := by omega
        simp [this]
      simp only [millwrightlaw04_CheckNumbers.j1]
      rw [file_f k hk, config_f k (by omega), hf]
      simp [err, file, h2]
    · have hf : okConfig a0 a1 a2 a3 a4 a5 a6 a7 a8 a9 = true := by
        rw [h]; have h3 : least ≤ n := by omega
        have h4 : n ≤ most := by omega
        simp [h3, h4]
      have h5 : decide (n > most) = false := by simp; omega
      simp only [millwrightlaw04_CheckNumbers.j1]
      rw [file_f k hk, config_f k (by omega), hf, h5]
      simp [err, file, tail]

/-- Each config with one number turned is right just if that number is in its bounds. -/
theorem CheckNumbers : millwrightlaw04_CheckNumbers.Pure := by
  intro a0 a1 _ _
  refine ⟨102, ?_⟩
  unfold millwrightlaw04_CheckNumbers.f millwrightlaw04_good.f
  rw [shown_any 102 (by omega)]
  simp only [Option.bind_some]
  have hb := masked_mod a0 10 (by omega)
  generalize Int.tmod (Go.bits .and .i64 a0 65535) 10 = t at hb
  repeat' split
  all_goals first
    | (exfalso; omega)
    | (refine j0_tells 100 (by omega) _ _ _ _ _ _ _ _ _ _ _ _ _ ?_; simp [okConfig, allIn])

end Go.Proofs.Ytkldfjlbgmppfaa.Pure
