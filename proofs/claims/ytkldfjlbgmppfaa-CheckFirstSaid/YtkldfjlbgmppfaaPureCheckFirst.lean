/- CheckFirst: of up to sixty-six tasks, of which any two are turned, File tells the first one that is wrong, unless there are too many. No condition. -/
import Derived.Test.YtkldfjlbgmppfaaPCheckFirstx2
import Derived.Test.YtkldfjlbgmppfaaCkCheckFirst
namespace Go.Proofs.Ytkldfjlbgmppfaa.Pure
open Go.RowKit Go.Proofs.Ytkldfjlbgmppfaa.PCheckFirst Go.Proofs.Ytkldfjlbgmppfaa.Plain Go.Proofs.YtkldfjlbgmppfaaW.PrintWords Go.Proofs.YtkldfjlbgmppfaaW.PrintLast Go.Proofs.YtkldfjlbgmppfaaW.PrintMore

def mkT (i : Nat) : S39 := ⟨1 + (i : Int), 1048576 - (i : Int)⟩

/-- The end of the function, behind the loop. -/
theorem ends (n : Nat) (hn : 1 ≤ n) (hn' : n ≤ 66) (a b v : Int) (k : Nat) (hk : 80 ≤ k) (l : List S39) (hl : l.length = n) (hc : ∀ j, j < n → l[j]? = some (mkT j)) :
    millwrightlaw04_CheckFirst.l0 (k + 1) (n : Int) a b v true l (n : Int) = some true := by
  have ha := masked_mod a (n : Int) (by omega)
  have hb := masked_mod b (n : Int) (by omega)
  simp only [millwrightlaw04_CheckFirst.l0]
  rw [if_neg (by omega), if_neg (by omega), if_pos ha.1, if_pos (by omega), Option.bind_some, if_pos hb.1, if_pos (by omega)]
  unfold millwrightlaw04_good.f
  rw [Option.bind_some, file_f k hk, Option.bind_some, good_ok]
  generalize Int.tmod (Go.bits .and .i64 a 65535) (n : Int) = p at ha ⊢
  generalize Int.tmod (Go.bits .and .i64 b 65535) (n : Int) = q at hb ⊢
  obtain ⟨p, rfl⟩ := Int.eq_ofNat_of_zero_le ha.1
  obtain ⟨q, rfl⟩ := Int.eq_ofNat_of_zero_le hb.1
  have hp : p < n := by omega
  have hq : q < n := by omega
  clear ha hb
  simp only [Int.toNat_natCast]
  have hlp : rd_T39 l (p : Int) = mkT p := by
    have := hc p hp
    simp only [rd_T39, Int.toNat_natCast, List.getD_eq_getElem?_getD, this, Option.getD_some]
  rw [hlp]
  generalize hy : l.set p ⟨v, (mkT p).f1⟩ = y
  have hyl : y.length = n := by rw [← hy, List.length_set, hl]
  have hyc : ∀ j, j < n → y[j]? = some (if p = j then ⟨v, (mkT p).f1⟩ else mkT j) := by
    intro j hj
    rw [← hy, List.getElem?_set]
    by_cases e : p = j
    · rw [if_pos e, if_pos (by omega), if_pos e]
    · rw [if_neg e, if_neg e, hc j hj]
  have hlq : rd_T39 y (q : Int) = if p = q then ⟨v, (mkT p).f1⟩ else mkT q := by
    have := hyc q hq
    simp only [rd_T39, Int.toNat_natCast, List.getD_eq_getElem?_getD, this, Option.getD_some]
  rw [hlq]
  generalize hz : y.set q ⟨(if p = q then (⟨v, (mkT p).f1⟩ : S39) else mkT q).f0, v⟩ = z
  have hzl : z.length = n := by rw [← hz, List.length_set, hyl]
  have hzc : ∀ j (hj : j < n), z[j]'(by omega) = if q = j then ⟨(if p = q then (⟨v, (mkT p).f1⟩ : S39) else mkT q).f0, v⟩ else (if p = j then ⟨v, (mkT p).f1⟩ else mkT j) := by
    intro j hj
    have h : z[j]? = some (if q = j then ⟨(if p = q then (⟨v, (mkT p).f1⟩ : S39) else mkT q).f0, v⟩ else (if p = j then ⟨v, (mkT p).f1⟩ else mkT j)) := by
      rw [← hz, List.getElem?_set]
      by_cases e : q = j
      · rw [if_pos e, if_pos (by omega), if_pos e]
      · rw [if_neg e, if_neg e, hyc j hj]
    exact Option.some.inj ((List.getElem?_eq_getElem (by omega)).symm.trans h)
  have hmk : ∀ j, j < n → okTask (mkT j) = true := by
    intro j hj
    rw [okTask_iff]
    simp only [mkT]
    omega
  by_cases h64 : (n : Int) > 64
  · rw [if_pos h64]
    have : (z.length : Int) > 64 := by omega
    simp [file, this]
  · rw [if_neg h64]
    have hf : file true z = tail z 0 := by
      have : ¬ (z.length : Int) > 64 := by omega
      simp only [file, if_true]
      rw [if_neg this]
    rw [hf]
    by_cases hv : 1 ≤ v ∧ v ≤ 1048576
    · rw [if_pos (by omega), if_pos hv.2, tail_ok z 0 ?_]
      · simp
      · intro t ht
        obtain ⟨j, hj, rfl⟩ := List.getElem_of_mem ht
        rw [hzc j (by omega)]
        have hmj := hmk j (by omega)
        rw [okTask_iff] at hmj ⊢
        simp only [mkT] at hmj ⊢
        repeat' split
        all_goals (subst_vars; simp only at *; omega)
    · have hbad : tail z 0 = (((min p q : Nat) : Int) + 1, 3) := by
        have h := tail_bad z 0 (min p q) (by omega) ?_ ?_
        · rw [h]; congr 1; omega
        · intro j hj
          rw [hzc j (by omega), if_neg (by omega), if_neg (by omega)]
          exact hmk j (by omega)
        · rw [hzc (min p q) (by omega)]
          apply Bool.eq_false_iff.2
          intro h
          rw [okTask_iff] at h
          simp only [mkT] at h
          by_cases e1 : q = min p q
          · rw [if_pos e1] at h; simp only at h; omega
          · have e2 : p = min p q := by omega
            rw [if_neg e1, if_pos e2] at h; simp only at h; omega
      have hm : wrap64 ((mn (p : Int) (q : Int)) + 1) = ((min p q : Nat) : Int) + 1 := by
        unfold wrap64 mn; split <;> omega
      rw [hbad, hm]
      repeat' split
      all_goals first
        | rfl
        | (exfalso; omega)
        | simp_all

theorem fills (n : Nat) (hn : 1 ≤ n) (hn' : n ≤ 66) (a b v : Int) : ∀ (d k i : Nat), i + d = n → d + 81 ≤ k → ∀ l : List S39, l.length = n → (∀ j, j < i → l[j]? = some (mkT j)) →
    millwrightlaw04_CheckFirst.l0 k (n : Int) a b v true l (i : Int) = some true := by
  intro d
  induction d with
  | zero =>
    intro k i hi hk l hl hc
    obtain ⟨k, rfl⟩ : ∃ m, k = m + 1 := ⟨k - 1, by omega⟩
    obtain rfl : i = n := by omega
    exact ends i hn hn' a b v k (by omega) l hl hc
  | succ d ih =>
    intro k i hi hk l hl hc
    obtain ⟨k, rfl⟩ : ∃ m, k = m + 1 := ⟨k - 1, by omega⟩
    simp only [millwrightlaw04_CheckFirst.l0]
    rw [if_pos (by omega), if_pos (by omega), if_pos (by omega), wrap_next (show i < n by omega) (by omega)]
    refine ih k (i + 1) (by omega) (by omega) _ (by rw [List.length_set, hl]) ?_
    intro j hj
    rw [List.getElem?_set, Int.toNat_natCast]
    by_cases e : i = j
    · subst e
      rw [if_pos rfl, if_pos (by omega)]
      have h1 : wrap64 (1 + (i : Int)) = 1 + (i : Int) := by unfold wrap64; omega
      have h2 : wrap64 (1048576 - (i : Int)) = 1048576 - (i : Int) := by unfold wrap64; omega
      rw [h1, h2]; rfl
    · rw [if_neg e]
      exact hc j (by omega)

/-- The first task that is wrong is told, unless there are too many. -/
theorem CheckFirst : millwrightlaw04_CheckFirst.Pure := by
  intro a0 a1 a2 a3 _ _ _ _
  refine ⟨200, ?_⟩
  unfold millwrightlaw04_CheckFirst.f
  rw [shown_any 200 (by omega), Option.bind_some]
  have hm := masked_mod a0 66 (by omega)
  generalize Int.tmod (Go.bits .and .i64 a0 65535) 66 = t at hm ⊢
  have hw : wrap64 (1 + t) = ((t.toNat + 1 : Nat) : Int) := by unfold wrap64; omega
  rw [hw, if_pos (by omega), if_pos (by omega), Int.toNat_natCast]
  exact fills (t.toNat + 1) (by omega) (by omega) a1 a2 a3 (t.toNat + 1) 200 0 (by omega) (by omega) _ (by simp) (fun j hj => by omega)

end Go.Proofs.Ytkldfjlbgmppfaa.Pure
